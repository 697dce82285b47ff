/- The texts S36, S37, S38, DepV, NamV, Evr1, CmpV, EvrV, EvrW, PkgV, FormV, Pool1, RuneV, NextV, OneV, ParseL, Pool2, Pool3 of the proof, joined. Each says at its theorems what it proves. -/
import Derived.Test.YtlmloohlmlahfaaGreatDoorJ1
set_option linter.unusedSimpArgs false
set_option linter.unusedVariables false
section
namespace Go.Proofs.YtlmloohlmlahfaaGreatDoor
open Go Go.RowKit
set_option linter.unusedSimpArgs false
set_option linter.unusedVariables false
namespace Sv
abbrev Jm := List St × List (Nat × Prop) × List (Nat × List AV × Bool) × List (Nat × List AV)
noncomputable def noT (i : Nat) : List (Nat × Nat) → Bool
  | [] => true
  | t :: l => !Nat.beq t.1 i && noT i l
noncomputable def Q1i : Op → Bool
  | .call { callee := .value _, args := _, argTypes := _ } => true
  | _ => false
noncomputable def Ie (P : Program) (E : Bool) (n : Nat) (ops : Array Oper) (lz : List Nat) (V : List Conv) (T : List (Nat × Nat)) (listed : Array Bool) (x : St) : List Nat → Option (Nat × List AV × St × Option Prop)
  | [] => none
  | i :: l => bif Region.free .any ops listed i && noT i T then (match ops[i]? with
    | some o => bif Q1i o.op then Ie P E n ops lz V T listed x l else (match Gb i V x with
      | some (x1, m) => match Kz P E n ops lz o x1 with
        | some (y, C) => some (i, m, y, C)
        | none => Ie P E n ops lz V T listed x l
      | none => Ie P E n ops lz V T listed x l)
    | none => Ie P E n ops lz V T listed x l) else Ie P E n ops lz V T listed x l
noncomputable def Ps (f : Nat → Option Jm) : List Nat → Option Jm
  | [] => some ([], [], [], [])
  | i :: l => match f i with
    | some (a, b, c, d) => match Ps f l with
      | some (a', b', c', d') => some (a ++ a', b ++ b', c ++ c', d ++ d')
      | none => none
    | none => none
noncomputable def Gl (P : Program) (n : Nat) (ops : Array Oper) (lz ts : List Nat) (H : List Hint) (V : List Conv) (T : List (Nat × Nat)) : Nat → Bool → Array Bool → St → Option Jm
  | 0, E, listed, x => match Region.ready .any ops listed with
    | [] => match Fz ts x.s with
      | some s => some ([⟨s, x.h, x.nx⟩], [], [], [])
      | none => none
    | _ :: _ => none
  | fuel + 1, E, listed, x => match Region.ready .any ops listed with
    | [] => match Fz ts x.s with
      | some s => some ([⟨s, x.h, x.nx⟩], [], [], [])
      | none => none
    | a :: l => match Ie P E n ops lz V T listed x (a :: l) with
      | some (i, m, y, C) => match Gl P n ops lz ts H V T fuel E (listed.setIfInBounds i true) y with
        | some (fs, cs, ms, vs) => some (fs, Ik i C cs, ms, (i, m) :: vs)
        | none => none
      | none => Ps (fun i => match ops[i]? with
        | some o => match Gz P i T x with
          | some x0 => match Gb i V x0 with
            | some (x1, m) => match Ky P n ops lz H i o x1 with
              | some (y, C, A) => match Gl P n ops lz ts H V T fuel (E && noT i T && A.isNone) (listed.setIfInBounds i true) y with
                | some (fs, cs, ms, vs) => some (fs, Ik i C cs, L0 i A ms, (i, m) :: vs)
                | none => none
              | none => none
            | none => none
          | none => none
        | none => none) (a :: l)
section
variable {P : Program} {B : Bas} {w : World} {F F0 : Cx} {n : Nat} {φ : Phi} {σ : Nat → Value} {K : Exit → St → Prop} {KK : St → Prop} {x y : St} {E : Bool} {ops : Array Oper} {fuel : Nat} {listed : Array Bool} {H : List Hint} {V : List Conv} {T : List (Nat × Nat)} {CS : List (Nat × Prop)} {lz ts : List Nat} {i : Nat} {o : Oper} {C : Option Prop} {A : Option (List AV × Bool)}
theorem U4 {j : Nat} : ∀ {T : List (Nat × Nat)} {x y : St}, Gz P j T x = some y → noT j T = true → y = x
  | [], x, y, h, _ => by cases h; rfl
  | t :: r, x, y, h, k => by
    unfold noT at k
    simp only [Bool.and_eq_true, Bool.not_eq_true'] at k
    unfold Gz at h
    rw [k.1, cond_false] at h
    exact U4 h k.2
theorem Qw {j : Nat} : ∀ {T : List (Nat × Nat)} {x y : St} {φ : Phi}, Gz P j T x = some y → Holds B F n x φ σ w → ∃ φ', Holds B F n y φ' σ w
  | [], x, y, φ, h, hx => by cases h; exact ⟨φ, hx⟩
  | t :: l, x, y, φ, h, hx => by
    unfold Gz at h
    cases hb : Nat.beq t.1 j with
    | false => rw [hb, cond_false] at h; exact Qw h hx
    | true =>
      rw [hb, cond_true] at h
      split at h
      · rename_i z hz
        obtain ⟨φ', h'⟩ := hx.still hz
        exact Qw h h'
      · cases h
theorem Pz {j : Nat} : ∀ {V : List Conv} {x y : St} {m : List AV}, VOk V → Gb j V x = some (y, m) → m = Gc j V → Holds B F n x φ σ w → Holds B F n y φ σ w
  | [], x, y, m, _, h, _, hx => by cases h; exact hx
  | v :: l, x, y, m, hV, h, hm, hx => by
    unfold Gb at h
    unfold Gc at hm
    cases hb : Nat.beq v.i j with
    | false => rw [hb, cond_false] at h hm; exact Pz hV.2 h hm hx
    | true =>
      rw [hb, cond_true] at h hm
      split at h
      · rename_i a ha
        split at h
        · rename_i z m' hz
          cases h
          simp only [List.cons.injEq] at hm
          exact Pz hV.2 hz hm.2 (hx.conv ha (by rw [hm.1]; exact hV.1))
        · cases h
      · cases h
theorem Zm : ∀ {l : List Nat} {i : Nat} {m : List AV} {y : St} {C : Option Prop}, Ie P E n ops lz V T listed x l = some (i, m, y, C) → i ∈ l ∧ Region.free .any ops listed i = true ∧ ∃ o x1, ops[i]? = some o ∧ Gb i V x = some (x1, m) ∧ Kz P E n ops lz o x1 = some (y, C)
  | [], i, m, y, C, h => by cases h
  | a :: l, i, m, y, C, h => by
    have more : Ie P E n ops lz V T listed x l = some (i, m, y, C) → i ∈ a :: l ∧ Region.free .any ops listed i = true ∧ ∃ o x1, ops[i]? = some o ∧ Gb i V x = some (x1, m) ∧ Kz P E n ops lz o x1 = some (y, C) := fun k => by
      obtain ⟨k1, k2⟩ := Zm k; exact ⟨List.mem_cons_of_mem _ k1, k2⟩
    unfold Ie at h
    cases hb : Region.free .any ops listed a && noT a T with
    | false => rw [hb, cond_false] at h; exact more h
    | true =>
      rw [hb, cond_true] at h
      simp only [Bool.and_eq_true] at hb
      split at h
      · rename_i o ho
        cases hk : Q1i o.op with
        | true => rw [hk, cond_true] at h; exact more h
        | false =>
          rw [hk, cond_false] at h
          split at h
          · rename_i x1 m1 hx1
            split at h
            · rename_i y1 C1 hy1
              simp only [Option.some.injEq, Prod.mk.injEq] at h
              obtain ⟨rfl, rfl, rfl, rfl⟩ := h
              exact ⟨List.mem_cons_self, hb.1, o, x1, ho, hx1, hy1⟩
            · exact more h
          · exact more h
      · exact more h
theorem Q0y {f : Nat → Option Jm} : ∀ {l : List Nat} {a : List St} {b : List (Nat × Prop)} {c : List (Nat × List AV × Bool)} {d : List (Nat × List AV)}, Ps f l = some (a, b, c, d) →
    ∀ i ∈ l, ∃ a' b' c' d', f i = some (a', b', c', d') ∧ (∀ y ∈ a', y ∈ a) ∧ (∀ y ∈ b', y ∈ b) ∧ (∀ y ∈ c', y ∈ c) ∧ ∀ y ∈ d', y ∈ d
  | [], a, b, c, d, h, i, hi => by cases hi
  | j :: l, a, b, c, d, h, i, hi => by
    unfold Ps at h
    split at h
    · rename_i a1 b1 c1 d1 h1
      split at h
      · rename_i a2 b2 c2 d2 h2
        simp only [Option.some.injEq, Prod.mk.injEq] at h
        obtain ⟨rfl, rfl, rfl, rfl⟩ := h
        rcases List.mem_cons.1 hi with rfl | hi
        · exact ⟨a1, b1, c1, d1, h1, fun y hy => List.mem_append_left _ hy, fun y hy => List.mem_append_left _ hy, fun y hy => List.mem_append_left _ hy, fun y hy => List.mem_append_left _ hy⟩
        · obtain ⟨a', b', c', d', k1, k2, k3, k4, k5⟩ := Q0y h2 i hi
          exact ⟨a', b', c', d', k1, fun y hy => List.mem_append_right _ (k2 y hy), fun y hy => List.mem_append_right _ (k3 y hy), fun y hy => List.mem_append_right _ (k4 y hy), fun y hy => List.mem_append_right _ (k5 y hy)⟩
      · cases h
    · cases h
theorem X4p {l : List Nat} (hr : Region.ready .any ops listed = l) (hl : l ≠ []) (h : ∀ i ∈ l, SN P n ops B F KK F0 E fuel listed i x) : SG P n ops B F KK F0 E (fuel + 1) listed x := by
  unfold SG
  intro φ σ w hx hE
  exact Qc hr hl fun k hk => h k hk φ σ w hx hE
theorem X4q {m : List AV} (hV : VOk V) (h : Gb i V x = some (y, m)) (hm : m = Gc i V) (k : SG P n ops B F KK F0 E fuel listed y) : SG P n ops B F KK F0 E fuel listed x := by
  unfold SG at k ⊢
  exact fun φ σ w hx hE => k φ σ w (Pz hV h hm hx) hE
theorem X4j {m : List AV} {j : Nat} (hV : VOk V) (h : Gb j V x = some (y, m)) (hm : m = Gc j V) (k : SN P n ops B F KK F0 E fuel listed i y) : SN P n ops B F KK F0 E fuel listed i x :=
  fun φ σ w hx hE => k φ σ w (Pz hV h hm hx) hE
theorem X4h {j : Nat} (h : Gz P j T x = some y) (k : SN P n ops B F KK F0 (E && noT j T) fuel listed i y) : SN P n ops B F KK F0 E fuel listed i x := by
  intro φ σ w hx hE
  cases hn : noT j T with
  | true =>
    have := U4 h hn; subst this
    rw [hn, Bool.and_true] at k
    exact k φ σ w hx hE
  | false =>
    rw [hn, Bool.and_false] at k
    obtain ⟨φ', h'⟩ := Qw h hx
    obtain ⟨o, h1, h2⟩ := k φ' σ w h' (fun q => by cases q)
    exact ⟨o, h1, h2⟩
theorem Q6m (hs : Region.noSelect ops = true) (hH : HOk P H) (hV : VOk V) (hCS : COk CS) : ∀ {fuel : Nat} {E : Bool} {listed : Array Bool} {x : St} {fs : List St} {cs : List (Nat × Prop)} {ms : List (Nat × List AV × Bool)} {vs : List (Nat × List AV)},
    Gl P n ops lz ts H V T fuel E listed x = some (fs, cs, ms, vs) → Ko H V CS cs ms vs → (∀ y ∈ fs, KK y) → SG P n ops B F KK F0 E fuel listed x := by
  have fin : ∀ {fuel : Nat} {E : Bool} {listed : Array Bool} {x : St} {fs : List St} {cs : List (Nat × Prop)} {ms : List (Nat × List AV × Bool)} {vs : List (Nat × List AV)}, Region.ready .any ops listed = [] →
      (match Fz ts x.s with | some s => some (([⟨s, x.h, x.nx⟩], [], [], []) : Jm) | none => none) = some (fs, cs, ms, vs) → (∀ y ∈ fs, KK y) → SG P n ops B F KK F0 E fuel listed x := by
    intro fuel E listed x fs cs ms vs hr h hk
    split at h
    · rename_i s hsel
      simp only [Option.some.injEq, Prod.mk.injEq] at h
      obtain ⟨rfl, _⟩ := h
      exact Uc ts hsel (Gi hr (hk _ (by simp)))
    · cases h
  intro fuel
  induction fuel with
  | zero =>
    intro E listed x fs cs ms vs h hf hk
    unfold Gl at h
    split at h
    · rename_i hr; exact fin hr h hk
    · cases h
  | succ fuel ih =>
    intro E listed x fs cs ms vs h hf hk
    unfold Gl at h
    split at h
    · rename_i hr; exact fin hr h hk
    · rename_i a l hr
      obtain ⟨f1, f2, f3⟩ := hf
      split at h
      · rename_i i m y C hfi
        split at h
        · rename_i fs' cs' ms' vs' hrec
          simp only [Option.some.injEq, Prod.mk.injEq] at h
          obtain ⟨rfl, rfl, rfl, rfl⟩ := h
          obtain ⟨hi, hfree, o, x1, ho, hx1, hy⟩ := Zm hfi
          have hC : Bn C := by
            cases C with
            | none => trivial
            | some p =>
              have e : p = G8 CS i := f1 (i, p) (by simp [Ik])
              show p
              rw [e]; exact Pi i hCS
          have f' : Ko H V CS cs' ms' vs' := by
            refine ⟨fun c hc => f1 c ?_, f2, fun v hv => f3 v (by simp [hv])⟩
            cases C <;> simp [Ik, hc]
          exact X4q hV hx1 (f3 (i, m) (by simp)) (Q29 i lz ho hs hfree (by rw [hr]; simpa using hi) hy hC (ih hrec f' hk))
        · cases h
      · refine X4p hr (by simp) fun i hi => ?_
        obtain ⟨fs1, cs1, ms1, vs1, h1, g1, g2, g3, g4⟩ := Q0y h i hi
        split at h1
        · rename_i o ho
          split at h1
          · rename_i x0 hx0
            split at h1
            · rename_i x1 m hx1
              split at h1
              · rename_i y C A hy
                split at h1
                · rename_i fs' cs' ms' vs' hrec
                  simp only [Option.some.injEq, Prod.mk.injEq] at h1
                  obtain ⟨rfl, rfl, rfl, rfl⟩ := h1
                  have hC : Bn C := by
                    cases C with
                    | none => trivial
                    | some p =>
                      have e : p = G8 CS i := f1 (i, p) (g2 _ (by simp [Ik]))
                      show p
                      rw [e]; exact Pi i hCS
                  have hA : ∀ a, A = some a → a = G5 H i := by
                    rintro a rfl
                    exact f2 (i, a) (g3 _ (by simp [L0]))
                  have f' : Ko H V CS cs' ms' vs' := by
                    refine ⟨fun c hc => f1 c (g2 _ ?_), fun a ha => f2 a (g3 _ ?_), fun v hv => f3 v (g4 _ (by simp [hv]))⟩
                    · cases C <;> simp [Ik, hc]
                    · cases A <;> simp [L0, ha]
                  exact X4h hx0 (X4j hV hx1 (f3 (i, m) (g4 _ (by simp))) (Q4d ho hy hC hH hA (ih hrec f' fun y hy => hk y (g1 y hy))))
                · cases h1
              · cases h1
            · cases h1
          · cases h1
        · cases h1
noncomputable def stD (r : Option Jm) : St := match r with
  | some (y :: _, _) => y
  | _ => ⟨[], [], 0⟩
noncomputable def Qp (H : List Hint) (V : List Conv) (CS : List (Nat × Prop)) (r : Option Jm) : Option Jm := match r with
  | some (fs, cs, ms, vs) => some (fs.map fun _ => stD r, cs.map fun c => (c.1, G8 CS c.1), ms.map fun a => (a.1, G5 H a.1), vs.map fun v => (v.1, Gc v.1 V))
  | none => some ([], [], [], [])
theorem Gy {id : Nat} {l : List Oper} (lz ts : List Nat) (T : List (Nat × Nat)) (hH : HOk P H) (hV : VOk V) (hCS : COk CS) (next : K .normal (stD (Gl P n l.toArray lz ts H V T l.length true (Array.replicate l.length false) x)))
    (hm : P.follows .mixedOrders = true := by kernel_rfl) (hs : Region.noSelect l.toArray = true := by kernel_rfl)
    (h : Gl P n l.toArray lz ts H V T l.length true (Array.replicate l.length false) x = Qp H V CS (Gl P n l.toArray lz ts H V T l.length true (Array.replicate l.length false) x) := by kernel_rfl) : SW P n (.region id l.toArray true) B F K x := by
  refine It hm fun F0 _ => ?_
  cases hr : Gl P n l.toArray lz ts H V T l.length true (Array.replicate l.length false) x with
  | none => rw [hr] at h; cases h
  | some q =>
    obtain ⟨fs, cs, ms, vs⟩ := q
    rw [hr] at h next
    simp only [Qp, Option.some.injEq, Prod.mk.injEq] at h
    refine Q6m hs hH hV hCS hr ⟨Lg (f := G8 CS) h.2.1, Lg (f := G5 H) h.2.2.1, Lg (f := fun j => Gc j V) h.2.2.2⟩ fun y hy => ?_
    rw [h.1] at hy
    obtain ⟨_, _, rfl⟩ := List.mem_map.1 hy
    exact next
theorem Cq {id : Nat} {l : List Oper} {d : Code} (lz ts : List Nat) (T : List (Nat × Nat)) (hH : HOk P H) (hV : VOk V) (hCS : COk CS) (next : SW P n d B F K (stD (Gl P n l.toArray lz ts H V T l.length true (Array.replicate l.length false) x)))
    (hm : P.follows .mixedOrders = true := by kernel_rfl) (hs : Region.noSelect l.toArray = true := by kernel_rfl)
    (h : Gl P n l.toArray lz ts H V T l.length true (Array.replicate l.length false) x = Qp H V CS (Gl P n l.toArray lz ts H V T l.length true (Array.replicate l.length false) x) := by kernel_rfl) : SW P n (.seq (.region id l.toArray true) d) B F K x := Ad (Gy lz ts T hH hV hCS next hm hs h)
noncomputable def gcD (ts : List Nat) (m : Nat) (x : St) : St := match gcS ts m x with
  | some y => y
  | none => ⟨[], [], 0⟩
noncomputable def gcB (ts : List Nat) (m : Nat) (x : St) : Bool := match gcS ts m x with
  | some _ => true
  | none => false
theorem Sk {m : Nat} (h : gcB ts m x = true) : gcS ts m x = some (gcD ts m x) := by
  unfold gcB at h
  unfold gcD
  split at h
  · rename_i y hy; rw [hy]
  · cases h
theorem Bv {c : Code} (I : Nat → St → Prop) (ts : List Nat) (m g : Nat) (hlo : F.lo ≤ m) (h0 : I g (gcD ts m x)) (round : ∀ g y, I g y → SW P n c B F (Jr (fun z => gcB ts m z = true ∧ ∃ g', g' < g ∧ I g' (gcD ts m z)) K) y) (k : gcB ts m x = true := by kernel_rfl) : SW P n (.loop c) B F K x :=
  X37 I ts m g hlo (Sk k) h0 fun g y hI => Q20 (round g y hI) fun e z hz => by
    cases e with
    | normal => obtain ⟨h1, g', h2, h3⟩ := hz; exact ⟨_, Sk h1, g', h2, h3⟩
    | _ => exact hz
theorem Dt {c d : Code} (I : St → Prop) (ts : List Nat) (m : Nat) (hlo : F.lo ≤ m) (h : SW P n c B F (Jr (fun z => gcB ts m z = true ∧ I (gcD ts m z)) K) x) (r : ∀ y, I y → SW P n d B F K y) : SW P n (.seq c d) B F K x :=
  X38 (fun z => gcB ts m z = true ∧ I (gcD ts m z)) h fun z hz => Qg ts m hlo (Sk hz.1) (r _ hz.2)
theorem RK {rs : List ResultVar} {r : AV} {e : Exit} (he : e = .ret ∨ e = .normal) (rl : List AV) (h3 : Same (Ak rl) r)
    (h : (match Hi P rs x with | some al => (match frzVl P x.h al with | some q => some q.1 | none => none) | none => none) = some rl := by kernel_rfl) : Rg P rs r e x := by
  split at h
  · rename_i al ha
    split at h
    · rename_i q hq
      obtain ⟨rl', h'⟩ := q
      cases h
      exact Q5g he ha hq h3
    · cases h
  · cases h
end
theorem O3 {q : Bool} {c : Option Prop} (p : Option Prop) (h : c = p) (k : q = true → Bn p) : q = true → Bn c := by subst h; exact k
noncomputable def I0 : AV → Nat → AV
  | .row _ _ g => g
  | _ => fun _ => Bm
theorem wR : Exit.ret = .ret ∨ Exit.ret = .normal := .inl rfl
end Sv
end Go.Proofs.YtlmloohlmlahfaaGreatDoor
end
section
namespace Go.Proofs.YtlmloohlmlahfaaGreatDoor
open Go Go.RowKit
set_option linter.unusedSimpArgs false
set_option linter.unusedVariables false
namespace Sv
noncomputable def Jp (P : Program) (n : Nat) (ops : Array Oper) (lz : List Nat) (i : Nat) (x : St) : Option (St × Option Prop) := match ops[i]? with
  | some o => Iw P n ops lz o x
  | none => none
noncomputable def stR (r : Option (St × Option Prop)) : St := match r with
  | some (y, _) => y
  | none => ⟨[], [], 0⟩
noncomputable def Tn (r : Option (St × Option Prop)) : Option Prop := match r with
  | some (_, C) => C
  | none => some False
noncomputable def stL (r : Option (St × Option Prop × Array Bool)) : St := match r with
  | some (y, _) => y
  | none => ⟨[], [], 0⟩
noncomputable def X14 (r : Option (St × Option Prop × Array Bool)) : Option Prop := match r with
  | some (_, C, _) => C
  | none => some False
noncomputable def lsL (r : Option (St × Option Prop × Array Bool)) : Array Bool := match r with
  | some (_, _, L) => L
  | none => #[]
noncomputable def Vi (ts : List Nat) (s : Fr) : Fr := match Fz ts s with
  | some r => r
  | none => []
noncomputable def Vj (ts : List Nat) (s : Fr) : Bool := match Fz ts s with
  | some _ => true
  | none => false
noncomputable def lsD (n : Nat) (l : List Nat) : Array Bool := l.foldl (fun a i => a.setIfInBounds i true) (Array.replicate n false)
section
variable {P : Program} {B : Bas} {w : World} {F F0 : Cx} {n : Nat} {KK : St → Prop} {x : St} {E : Bool} {ops : Array Oper} {fuel fuel' : Nat} {listed : Array Bool} {C : Option Prop}
theorem Vb {lz : List Nat} {i : Nat} (h : Tn (Jp P n ops lz i x) = C) (hC : Bn C) : ∃ o, ops[i]? = some o ∧ Iw P n ops lz o x = some (stR (Jp P n ops lz i x), C) := by
  unfold Jp at h ⊢
  split at h
  · rename_i o ho
    refine ⟨o, ho, ?_⟩
    cases hs : Iw P n ops lz o x with
    | none => rw [hs] at h; subst h; exact hC.elim
    | some q => obtain ⟨y, D⟩ := q; rw [hs] at h; subst h; rfl
  · subst h; exact hC.elim
theorem Bb (i : Nat) (lz : List Nat) (hC : Bn C) (next : SG P n ops B F KK F0 E fuel (listed.setIfInBounds i true) (stR (Jp P n ops lz i x))) (h : Tn (Jp P n ops lz i x) = C := by kernel_rfl) : SN P n ops B F KK F0 E fuel listed i x := by
  obtain ⟨o, h1, h2⟩ := Vb h hC
  exact Q27 i lz h1 h2 hC next
theorem Cz (i : Nat) (lz : List Nat) (hC : Bn C) (next : SG P n ops B F KK F0 E fuel (listed.setIfInBounds i true) (stR (Jp P n ops lz i x))) (hr : Region.ready .any ops listed = [i] := by kernel_rfl) (h : Tn (Jp P n ops lz i x) = C := by kernel_rfl) : SG P n ops B F KK F0 E (fuel + 1) listed x := by
  obtain ⟨o, h1, h2⟩ := Vb h hC
  exact X4m i lz hr h1 h2 hC next
theorem Az (ts : List Nat) (next : SG P n ops B F KK F0 E fuel listed ⟨Vi ts x.s, x.h, x.nx⟩) (h : Vj ts x.s = true := by kernel_rfl) : SG P n ops B F KK F0 E fuel listed x := by
  unfold Vj at h
  unfold Vi at next
  split at h
  · rename_i r hr
    rw [hr] at next
    exact Uc ts hr next
  · cases h
theorem C0 (lz is ts : List Nat) (hC : Bn C) (next : SG P n ops B F KK F0 E fuel (lsL (Lm P E n ops lz is ts listed x)) (stL (Lm P E n ops lz is ts listed x))) (hs : Region.noSelect ops = true := by kernel_rfl) (hf : fuel' = fuel + is.length := by kernel_rfl)
    (h : X14 (Lm P E n ops lz is ts listed x) = C := by kernel_rfl) : SG P n ops B F KK F0 E fuel' listed x := by
  cases hq : Lm P E n ops lz is ts listed x with
  | none => rw [hq] at h; subst h; exact hC.elim
  | some q =>
    obtain ⟨y, D, L⟩ := q
    rw [hq] at h next
    subst h
    exact X4o is ts hs hq hf hC next
theorem Be {E' : Bool} {fuel' : Nat} {listed' : Array Bool} {x' : St} (m : SG P n ops B F KK F0 E' fuel' listed' x') (hE : E' = E := by kernel_rfl) (hf : fuel' = fuel := by kernel_rfl) (hl : listed' = listed := by kernel_rfl) (hx : x' = x := by kernel_rfl) : SG P n ops B F KK F0 E fuel listed x := X4n m hE hf hl hx
end
end Sv
end Go.Proofs.YtlmloohlmlahfaaGreatDoor
end
section
namespace Go.Proofs.YtlmloohlmlahfaaGreatDoor
open Go Go.RowKit
set_option linter.unusedSimpArgs false
set_option linter.unusedVariables false
namespace Sv
noncomputable def mis : List (AV × AV × Nat) → Option (List (Int × Int))
  | [] => some []
  | (.int .i64 k, .int .i64 a, _) :: r => match mis r with
    | some l => some ((k, a) :: l)
    | none => none
  | _ => none
theorem R6 {φ : Phi} : ∀ {es : List (AV × AV × Nat)} {l : List MapEntry} {m : List (Int × Int)}, MR φ es l → mis es = some m → l.map (fun e => (e.key, e.val)) = Dw I64 I64 m
  | [], _, _, h, k => by cases k; simp only [MR] at h; subst h; rfl
  | (a, v, c) :: r, _, _, h, k => by
    simp only [MR] at h
    obtain ⟨e, l', rfl, h1, h2, _, h4⟩ := h
    unfold mis at k
    split at k
    · cases ‹_ = []›
    · rename_i q
      cases q
      split at k
      · rename_i hm
        cases k
        simp only [VR] at h1 h2
        simp only [List.map_cons, Dw, R6 h4 hm, h1, h2]
      · cases k
    · cases k
theorem MR.snoc {φ : Phi} {a v : AV} {e : MapEntry} (h1 : VR φ a e.key) (h2 : VR φ v e.val) : ∀ {es : List (AV × AV × Nat)} {l : List MapEntry}, MR φ es l → MR φ (es ++ [(a, v, e.born)]) (l ++ [e])
  | [], _, h => by simp only [MR] at h; subst h; simp only [List.nil_append, MR]; exact ⟨e, [], rfl, h1, h2, rfl, rfl⟩
  | (b, u, c) :: r, _, h => by
    simp only [MR] at h
    obtain ⟨e', l', rfl, k1, k2, k3, k4⟩ := h
    simp only [List.cons_append, MR]
    exact ⟨e', _, rfl, k1, k2, k3, MR.snoc h1 h2 k4⟩
section
variable {P : Program} {B : Bas} {w : World} {F : Cx} {n : Nat} {φ : Phi} {σ : Nat → Value} {K : Exit → St → Prop} {x : St} {ops : Array Oper}
theorem Q23 {rest : List Oper} {t kt et : TypeId} {X I Y : Operand} {ty : TypeId} {ps : String} {af : Array Edge} {g : Option (Nat × Bool)} {b c : Nat} {es : List (AV × AV × Nat)} {m : List (Int × Int)} {k a : Int}
    (hg : C8 ops x.s g = true) (hX : evA x.s X = some (.map b)) (hI : evA x.s I = some (.int .i64 k)) (hY : evA x.s Y = some (.int .i64 a)) (hb : Bg b x.h = some (.map es c)) (hm : mis es = some m) (hn : Bt m k = none)
    (ht : P.underlying t = some (.map kt et)) (hk : P.underlying kt = some (.int .i64)) (next : SO P n ops rest B F K ⟨x.s, Ca b (.map (es ++ [(.int .i64 k, .int .i64 a, c)]) (c + 1)) x.h, x.nx⟩) : SO P n ops (⟨none, .insert t X I Y, ty, ps, af, g⟩ :: rest) B F K x := by
  intro φ σ w hx
  have v1 := hx.fr.ev _ _ hX
  have v2 := hx.fr.ev _ _ hI
  have v3 := hx.fr.ev _ _ hY
  simp only [VR] at v1 v2 v3
  obtain ⟨x0, κ, e0, v1⟩ := v1
  obtain ⟨x1, κ1, l, h1, h2, h3⟩ := hx.rel.obj b _ hb
  rw [e0] at h1; cases h1
  have he := R6 h3 hm
  obtain ⟨r, f1, f2, f3⟩ := Ra (R9 hk) k l.toList m he w
  rw [hn] at f2
  have hc := (R9 hk).check false 9999 k w
  have hlt : x0 < w.heap.size := Ez h2
  cases r with
  | some p => simp at f2
  | none =>
    refine Kl (w' := { w with heap := w.heap.setIfInBounds x0 (.map (l.push { key := I64 k, val := I64 a, born := c }) (c + 1)) }) (C4 hx.fr hg) ?_ (next φ _ _ ⟨hx.fr, ?_, hx.dom, hx.old, hx.new, hx.base⟩)
    · have v2' : ev n σ I = I64 k := v2
      have v3' : ev n σ Y = I64 a := v3
      simp [execOp, v1, v2', v3', Instr.mapUpdate, run_underlying ht, getObj, setObj, Sem.run, h2, hc, f1, go_sem]
    · refine hx.rel.set hb rfl rfl e0 rfl rfl rfl (by simp) (fun j hj => by simp [Array.getElem?_setIfInBounds, Ne.symm hj]) ⟨x0, κ, _, e0, (by simp [hlt]; rfl), ?_⟩
      rw [Array.toList_push]
      exact MR.snoc (e := { key := I64 k, val := I64 a, born := c }) (by simp only [VR]) (by simp only [VR]) h3
theorem X4a {rest : List Oper} {t kt et : TypeId} {X I : Operand} {dst : Option Tmp} {ty : TypeId} {ps : String} {af : Array Edge} {g : Option (Nat × Bool)} {b c : Nat} {es : List (AV × AV × Nat)} {m : List (Int × Int)} {k r : Int} {s' : Fr}
    (hg : C8 ops x.s g = true) (hX : evA x.s X = some (.map b)) (hI : evA x.s I = some (.int .i64 k)) (hb : Bg b x.h = some (.map es c)) (hm : mis es = some m)
    (ht : P.underlying t = some (.map kt et)) (hk : P.underlying kt = some (.int .i64)) (hz : ∀ w, (zeroValue et).run P w = .ok (.int .i64 0) w) (hr : (Bt m k).getD 0 = r)
    (hp : B3 n dst (.int .i64 r) x.s = some s') (next : SO P n ops rest B F K ⟨s', Cw b x.h, x.nx⟩) : SO P n ops (⟨dst, .lookup t X I false, ty, ps, af, g⟩ :: rest) B F K x := by
  intro φ σ w hx
  have v1 := hx.fr.ev _ _ hX
  have v2 := hx.fr.ev _ _ hI
  simp only [VR] at v1 v2
  obtain ⟨x0, κ, e0, v1⟩ := v1
  obtain ⟨x1, κ1, l, h1, h2, h3⟩ := hx.rel.obj b _ hb
  rw [e0] at h1; cases h1
  have he := R6 h3 hm
  refine Cy (C4 hx.fr hg) (Ue (enc := I64) (val := I64) (k := k) (m := m) v1 v2 ⟨_, _, h2, he⟩ (R9 hk) ht hz) (next φ _ w ⟨hx.fr.put hp ?_, hx.rel.del b, hx.dom, hx.old, hx.new, hx.base⟩)
  rw [← hr]
  cases Bt m k <;> simp [VR, I64]
end
end Sv
end Go.Proofs.YtlmloohlmlahfaaGreatDoor
end
section
namespace Go.Proofs.YtlmloohlmlahfaaGreatDoor
open Go Go.RowKit
set_option linter.unusedSimpArgs false
set_option linter.unusedVariables false
def DepT.name : DepT → List UInt8 | .mk _ nm _ _ _ => nm
def DepT.op : DepT → Int | .mk _ _ op _ _ => op
def DepT.evr : DepT → List UInt8 | .mk _ _ _ ev _ => ev
def DepT.args : DepT → List DepT | .mk _ _ _ _ a => a
namespace Sv
mutual
noncomputable def Tf : DepT → AV
  | .mk k nm op ev args => .agg [.int .i64 k, .str nm, .int .i64 op, .str ev, .row 5 args.length (depAt args)]
noncomputable def depAt : List DepT → Nat → AV
  | [], _ => Bm
  | d :: _, 0 => Tf d
  | _ :: r, i + 1 => depAt r i
end
noncomputable def Al (d : DepT) : AV := .agg [.int .i64 d.kind, .str d.name, .int .i64 d.op, .str d.evr, .row 5 d.args.length (depAt d.args)]
theorem X1v (d : DepT) : Tf d = Al d := by cases d; unfold Tf; rfl
theorem Th : ∀ {l : List DepT} {i : Nat}, i < l.length → depAt l i = Al (nth l i)
  | [], _, h => by simp at h
  | d :: r, 0, _ => by unfold depAt; exact X1v d
  | d :: r, i + 1, h => by
    unfold depAt
    exact Th (l := r) (by simpa using h)
noncomputable abbrev Dj (l : List DepT) : AV := Ac 5 Al l
theorem Ha (l : List DepT) : Imp (.row 5 l.length (depAt l)) (Dj l) := Imp.row fun i hi => Imp.of_eq (Th hi)
theorem Pu (l : List DepT) : Imp (Dj l) (.row 5 l.length (depAt l)) := Imp.row fun i hi => Imp.of_eq (Th hi).symm
theorem VRl.of_imp {a b : AV} {l : List AV} (h : Imp a b) : ∀ {p : List AV} {φ : Phi} {vs : List Value}, VRl φ (p ++ a :: l) vs → VRl φ (p ++ b :: l) vs
  | [], φ, vs, k => by
    obtain ⟨v, vs', rfl, h1, h2⟩ := VRl.cons_inv (a := a) (l := l) k
    exact VRl.cons (h φ v h1) h2
  | x :: p, φ, vs, k => by
    obtain ⟨v, vs', rfl, h1, h2⟩ := VRl.cons_inv (a := x) (l := p ++ a :: l) k
    exact VRl.cons h1 (VRl.of_imp h h2)
theorem Imp.agg {a b : AV} {p l : List AV} (h : Imp a b) : Imp (.agg (p ++ a :: l)) (.agg (p ++ b :: l)) := by
  intro φ v k
  simp only [VR] at k ⊢
  obtain ⟨vs, h1, h2⟩ := k; exact ⟨vs, VRl.of_imp h h1, h2⟩
theorem X1u (d : DepT) : Imp (Al d) (.agg [.int .i64 d.kind, .str d.name, .int .i64 d.op, .str d.evr, Dj d.args]) := Imp.agg (p := [.int .i64 d.kind, .str d.name, .int .i64 d.op, .str d.evr]) (Ha d.args)
theorem Q04 (d : DepT) : Imp (.agg [.int .i64 d.kind, .str d.name, .int .i64 d.op, .str d.evr, Dj d.args]) (Al d) := Imp.agg (p := [.int .i64 d.kind, .str d.name, .int .i64 d.op, .str d.evr]) (Pu d.args)
theorem Gj {d : DepT} {i : Nat} (h : i < d.args.length) : (nth d.args i).size < d.size := by
  cases d with
  | mk k nm op ev args =>
    have := Kh (l := args) (i := i) h
    show (nth args i).size < (DepT.mk k nm op ev args).size
    simp only [DepT.size]; omega
theorem Pw {C : DepT → Prop} (h : ∀ d, (∀ i, i < d.args.length → C (nth d.args i)) → C d) (d : DepT) : C d := by
  have key : ∀ n d, d.size ≤ n → C d := by
    intro n
    induction n with
    | zero => intro d hd; cases d; unfold DepT.size at hd; omega
    | succ n ih => intro d hd; exact h d fun i hi => ih _ (by have := Gj hi; omega)
  exact key d.size d (Nat.le_refl _)
end Sv
end Go.Proofs.YtlmloohlmlahfaaGreatDoor
end
section
namespace Go.Proofs.YtlmloohlmlahfaaGreatDoor
open Go Go.RowKit
namespace Sv
attribute [local irreducible] SW SO Bn
set_option maxHeartbeats 1000000
set_option maxRecDepth 100000
theorem Q8m (ls : List (List UInt8)) (s : List UInt8) (hl : ls.length ≤ 4611686018427387904) :
  FnV Tryz.prog 147 [(C3 ls), (.str s)] (.int .i64 (Ej ls s 0)) := by
 refine A4 [.tmp 4] Tryz.func147 rfl Tryz.ntmps147 rfl rfl (fun B F hF => ?_)
 refine Aa [] [0, 1] ?_
 refine Ad ?_
 refine Aa [] [0, 1, 7, 8] ?_
 refine A1 ?_
 refine Bv (fun g y => ∃ (i : Nat), i ≤ ls.length ∧ Ej ls s 0 = Ej (ls.drop i) s i ∧ y = ⟨[(0, (C3 ls)), (1, (.str s)), (7, (.int .i64 ((ls.length : Int)))), (8, (.int .i64 ((i : Int))))], [], 0⟩ ∧ g = ls.length - i) [0, 1, 7, 8] 0 _ (by omega) ⟨0, (by omega), (by rfl), (by kernel_rfl), rfl⟩ ?_
 rintro g1 y1 ⟨i, f1_1, f1_2, rfl, rfl⟩
 refine Aa [] [0, 1, 7, 8, 9] ?_
 refine Ad ?_
 refine A6 (p := (i : Int) < (ls.length : Int)) (by kernel_rfl) (fun c1 => ?_) (fun c1 => ?_)
 ·refine Ai ?_
  refine Ad ?_
  refine A1 ?_
  refine Aa [] [0, 1, 5, 7, 8] ?_
  refine Ah [] [0, 1, 5, 7, 8, 16] [] hk0 v0 (cc 3 (p := (0 ≤ (i : Int) ∧ i < ls.length)) (by omega) <| c0) ?_
  refine A6 (p := s = nth ls i) (by kernel_rfl) (fun c2 => ?_) (fun c2 => ?_)
  ·refine Aa [] [4] ?_
   refine Ag ?_
   refine RK wR [(.int .i64 ((i : Int)))] ?_
   exact Same.of_eq (by rw [f1_2, Um s (by omega), if_pos c2]; rfl)
  ·refine Ai ?_
   refine Ap ?_
   refine Av 0 [] [0, 1, 7, 8] [] hk0 v0 (cc 0 (p := (-9223372036854775808 ≤ (i : Int) + 1 ∧ (i : Int) + 1 ≤ 9223372036854775807)) (by omega) <| c0) ?_
   refine ⟨by kernel_rfl, _, ?_, i + 1, ?_, ?_, (by kernel_rfl), rfl⟩
   ·omega
   ·omega
   ·rw [f1_2, Um s (by omega), if_neg c2]
 ·refine Br ?_
  refine Aa [] [4] ?_
  refine Ag ?_
  refine RK wR [(.int .i64 (-1))] ?_
  exact Same.of_eq (by rw [f1_2, List.drop_of_length_le (by omega)]; rfl)
theorem Q1a (ls : List (List UInt8)) (s : List UInt8) (hl : ls.length ≤ 4611686018427387904) :
  FnV Tryz.prog 98 [(C3 ls), (.str s)] (.bool (decide (0 ≤ Ej ls s 0))) := by
 refine A4 [.tmp 4] Tryz.func98 rfl Tryz.ntmps98 rfl rfl (fun B F hF => ?_)
 refine Aa [] [0, 1] ?_
 refine Ah [] [4] [] (hk 2 X01 (Q8m ls s hl) <| hk0) v0 c0 ?_
 refine Ag ?_
 refine RK wR [(.bool (decide (0 ≤ (Ej ls s 0))))] ?_
 exact Same.of_eq (by first | rfl | (simp only [Ak]; simp_all))
theorem Q4n  :
  FnV Tryz.prog 99 [] (C3 signsL) := by
 refine A4 [.tmp 0] Tryz.func99 rfl Tryz.ntmps99 rfl rfl (fun B F hF => ?_)
 refine Aa [] [] ?_
 refine Aa [] [0] ?_
 refine Ag ?_
 refine RK wR [(.row 1 8 (fun ix => (Em 1 8 [(.str []), (.str ([60])), (.str ([61])), (.str ([60, 61])), (.str ([62])), (.str ([60, 62])), (.str ([62, 61])), (.str ([60, 61, 62]))]).getD ix Bm))] ?_
 exact (Imp.list (f := AV.str) (l := signsL) rfl).same
theorem Q3q  :
  FnV Tryz.prog 100 [] (C3 Ks) := by
 refine A4 [.tmp 0] Tryz.func100 rfl Tryz.ntmps100 rfl rfl (fun B F hF => ?_)
 refine Aa [] [] ?_
 refine Aa [] [0] ?_
 refine Ag ?_
 refine RK wR [(.row 1 7 (fun ix => (Em 1 7 [(.str []), (.str []), (.str ([97, 110, 100])), (.str ([111, 114])), (.str ([105, 102])), (.str ([119, 105, 116, 104])), (.str ([119, 105, 116, 104, 111, 117, 116]))]).getD ix Bm))] ?_
 exact (Imp.list (f := AV.str) (l := Ks) rfl).same
theorem Qk (l : List UInt8) (hl : l.length ≤ 9223372036854775807) :
  FnV Tryz.prog 45 [(.str l)] (.bool (Bp l)) := by
 have hp : l = [] ∨ 0 < l.length := by cases l <;> simp
 refine A4 [.tmp 2] Tryz.func45 rfl Tryz.ntmps45 rfl rfl (fun B F hF => ?_)
 refine Aa [] [0] ?_
 refine Ad ?_
 obtain ⟨b1, hb1⟩ : ∃ b, b = (decide (l = [])) := ⟨_, rfl⟩
 obtain ⟨b2, hb2⟩ : ∃ b, b = (b1 || (decide (60 < (l.length : Int)))) := ⟨_, rfl⟩
 obtain ⟨b3, hb3⟩ : ∃ b, b = (b2 || (decide (((Aq l 0).toNat : Int) = 40))) := ⟨_, rfl⟩
 obtain ⟨b4, hb4⟩ : ∃ b, b = (b3 || (decide (((Aq l 0).toNat : Int) = 41))) := ⟨_, rfl⟩
 obtain ⟨b5, hb5⟩ : ∃ b, b = (b4 || (decide (l = [101, 108, 115, 101]))) := ⟨_, rfl⟩
 obtain ⟨b6, hb6⟩ : ∃ b, b = (b5 || (decide (0 ≤ Ej signsL l 0))) := ⟨_, rfl⟩
 have qh1 : (((!b1) = true → (!b1) = true)) ∧ (((!b1) = true → (!b1) = true)) ∧ ((b1 = false → (!b1) = true)) ∧ (((!b2) = true → ((!b2) = true) ∧ (0 ≤ (0 : Int) ∧ 0 < l.length))) ∧ (((!b2) = true → (!b2) = true)) ∧ ((b2 = false → (!b2) = true)) ∧ (((!b3) = true → ((!b3) = true) ∧ (0 ≤ (0 : Int) ∧ 0 < l.length))) ∧ (((!b3) = true → (!b3) = true)) ∧ ((b3 = false → (!b3) = true)) ∧ (((!b4) = true → (!b4) = true)) ∧ ((b4 = false → (!b4) = true)) := by
  rcases hp with hp | hp <;> simp_all
 refine Ah [9, 10, 11, 14, 15, 16, 19, 20, 21, 24, 25, 29, 34] [0, 36] [] (hkg 22 (!b5) Q9p (fun cg => Q4n) <| hkg 24 (!b5) Zw (fun cg => (Q1a signsL l (by decide))) <| hkg 27 (!b6) X1p (fun cg => Q3q) <| hkg 29 (!b6) Zw (fun cg => (Q1a Ks l (by decide))) <| hk0) (vk 3 8 (a := .bool (decide (l = []))) (b := .bool b1) (Imp.of_eq (by rw [hb1])) <| vk 8 13 (a := .bool (b1 || (decide (60 < (l.length : Int))))) (b := .bool b2) (Imp.of_eq (by rw [hb2])) <| vk 12 17 (a := .bool (b2 || (decide (((Aq l 0).toNat : Int) = 40)))) (b := .bool b3) (Imp.of_eq (by rw [hb3])) <| vk 17 22 (a := .bool (b3 || (decide (((Aq l 0).toNat : Int) = 41)))) (b := .bool b4) (Imp.of_eq (by rw [hb4])) <| vk 22 27 (a := .bool (b4 || (decide (l = [101, 108, 115, 101])))) (b := .bool b5) (Imp.of_eq (by rw [hb5])) <| vk 27 32 (a := .bool (b5 || (decide (0 ≤ Ej signsL l 0)))) (b := .bool b6) (Imp.of_eq (by rw [hb6])) <| v0) (cc 4 (p := ((!b1) = true → (!b1) = true)) qh1.1 <| cc 5 (p := ((!b1) = true → (!b1) = true)) qh1.2.1 <| cc 6 (p := (b1 = false → (!b1) = true)) qh1.2.2.1 <| cc 9 (p := ((!b2) = true → ((!b2) = true) ∧ (0 ≤ (0 : Int) ∧ 0 < l.length))) qh1.2.2.2.1 <| cc 10 (p := ((!b2) = true → (!b2) = true)) qh1.2.2.2.2.1 <| cc 11 (p := (b2 = false → (!b2) = true)) qh1.2.2.2.2.2.1 <| cc 14 (p := ((!b3) = true → ((!b3) = true) ∧ (0 ≤ (0 : Int) ∧ 0 < l.length))) qh1.2.2.2.2.2.2.1 <| cc 15 (p := ((!b3) = true → (!b3) = true)) qh1.2.2.2.2.2.2.2.1 <| cc 16 (p := (b3 = false → (!b3) = true)) qh1.2.2.2.2.2.2.2.2.1 <| cc 19 (p := ((!b4) = true → (!b4) = true)) qh1.2.2.2.2.2.2.2.2.2.1 <| cc 20 (p := (b4 = false → (!b4) = true)) qh1.2.2.2.2.2.2.2.2.2.2 <| cc 24 (p := (!b5) = true → (!b5) = true ∧ (!b5) = true) (by simp) <| cc 25 (p := (b5 = false → (!b5) = true)) (by simp) <| cc 29 (p := (!b6) = true → (!b6) = true ∧ (!b6) = true) (by simp) <| cc 30 (p := (b6 = false → (!b6) = true)) (by simp) <| c0) ?_
 refine Bd (q := b6 || (decide (0 ≤ Ej Ks l 0))) (by kernel_rfl) (fun c1 => ?_) (fun c1 => ?_)
 ·subst hb6 hb5 hb4 hb3 hb2 hb1
  try simp only [Ao] at c1
  refine Aa [] [2] ?_
  refine Ag ?_
  refine RK wR [(.bool false)] ?_
  have h0 : F7 l = true := by
   unfold F7
   rcases c1 with (((((h | h) | h) | h) | h) | h) | h <;> first | (simp [h]; done) | (have h' : 60 < l.length := (by omega); simp [h']; done) | (have h' : (Aq l 0).toNat = 40 := (by omega); simp [h']; done) | (have h' : (Aq l 0).toNat = 41 := (by omega); simp [h']; done)
  exact Same.of_eq (by simp only [Ak]; rw [Bp, h0]; rfl)
 ·subst hb6 hb5 hb4 hb3 hb2 hb1
  try simp only [Ao] at c1
  have hnh : F7 l = false := by
   unfold F7
   simp only [Bool.or_eq_false_iff, decide_eq_false_iff_not]
   exact ⟨c1.1.1.1.1.1.1, by omega, by omega, by omega, c1.1.1.2, c1.1.2, c1.2⟩
  refine Ai ?_
  refine Aa [] [0, 3] ?_
  refine Ad ?_
  refine Aa [] [0, 3, 38, 39] ?_
  refine A1 ?_
  refine Bv (fun g y => ∃ (k : Nat) (n : Int), k ≤ l.length ∧ F4 l 0 = F4 (l.drop k) n ∧ (0 ≤ n ∧ n ≤ k) ∧ l.length ≤ 60 ∧ F7 l = false ∧ y = ⟨[(0, (.str l)), (3, (.int .i64 n)), (38, (.int .i64 ((l.length : Int)))), (39, (.int .i64 ((k : Int))))], [], 0⟩ ∧ g = l.length - k) [0, 3, 38, 39] 0 _ (by omega) ⟨0, 0, (by omega), (by rfl), (by omega), (by exact Y7 hnh), (by exact hnh), (by kernel_rfl), rfl⟩ ?_
  rintro g1 y1 ⟨k, n, f1_1, f1_2, f1_3, f1_4, f1_5, rfl, rfl⟩
  refine Aa [] [0, 3, 38, 39, 40] ?_
  refine Ad ?_
  refine A6 (p := (k : Int) < (l.length : Int)) (by kernel_rfl) (fun c2 => ?_) (fun c2 => ?_)
  ·refine Ai ?_
   refine Ad ?_
   refine A1 ?_
   refine Aa [] [0, 3, 4, 38, 39] ?_
   refine Dt (fun y => ¬ ((Aq l k).toNat < 33 ∨ 126 < (Aq l k).toNat) ∧ y = ⟨[(0, (.str l)), (3, (.int .i64 ((if (Aq l k).toNat = 40 then n + 1 else if (Aq l k).toNat = 41 then n - 1 else n)))), (38, (.int .i64 ((l.length : Int)))), (39, (.int .i64 ((k : Int))))], [], 0⟩) [0, 3, 38, 39] 0 (by omega) ?_ ?_
   ·refine Ah [] [0, 3, 5, 38, 39] [] hk0 v0 (cc 2 (p := (0 ≤ (k : Int) ∧ k < l.length)) (by omega) <| c0) ?_
    refine A1 ?_
    obtain ⟨b7, hb7⟩ : ∃ b, b = (decide (((Aq l k).toNat : Int) < 33)) := ⟨_, rfl⟩
    obtain ⟨b8, hb8⟩ : ∃ b, b = (b7 || (decide (126 < ((Aq l k).toNat : Int)))) := ⟨_, rfl⟩
    refine Ah (CS := [(4, ((!b7) = true → (!b7) = true)), (5, (b7 = false → (!b7) = true))]) [49, 50] [0, 3, 5, 38, 39, 45] [] hk0 (vk 3 48 (a := .bool (decide (((Aq l k).toNat : Int) < 33))) (b := .bool b7) (Imp.of_eq (by rw [hb7])) <| vk 6 51 (a := .bool (b7 || (decide (126 < ((Aq l k).toNat : Int))))) (b := .bool b8) (Imp.of_eq (by rw [hb8])) <| v0) (by refine cc _ ?_ <| cc _ ?_ c0 <;> simp) ?_
    refine Bd (q := b8) (by kernel_rfl) (fun c3 => ?_) (fun c3 => ?_)
    ·subst hb8 hb7
     try simp only [Ao] at c3
     have hub : (Aq l k).toNat < 33 ∨ 126 < (Aq l k).toNat := by omega
     refine Aa [] [2] ?_
     refine Ag ?_
     refine RK wR [(.bool false)] ?_
     exact Same.of_eq (by simp only [Ak]; rw [Bp, f1_2, Ja (by omega), F4, if_pos hub]; simp)
    ·subst hb8 hb7
     try simp only [Ao] at c3
     have hub : ¬ ((Aq l k).toNat < 33 ∨ 126 < (Aq l k).toNat) := by omega
     refine Aa [] [0, 3, 5, 38, 39, 52] ?_
     refine A6 (p := ((Aq l k).toNat : Int) = 40) (by kernel_rfl) (fun c4 => ?_) (fun c4 => ?_)
     ·refine Ap ?_
      refine Av 0 [] [0, 3, 38, 39] [] hk0 v0 (cc 1 (p := (-9223372036854775808 ≤ n + 1 ∧ n + 1 ≤ 9223372036854775807)) (by omega) <| c0) ?_
      refine ⟨by kernel_rfl, ?_, (Eq.trans (b := (⟨[(0, (.str l)), (3, (.int .i64 (n + 1))), (38, (.int .i64 ((l.length : Int)))), (39, (.int .i64 ((k : Int))))], [], 0⟩ : St)) (by kernel_rfl) (by rw [show (if (Aq l k).toNat = 40 then n + 1 else if (Aq l k).toNat = 41 then n - 1 else n) = n + 1 from by (repeat' split) <;> omega]))⟩
      exact hub
     ·refine Aa [] [0, 3, 38, 39, 57] ?_
      refine A6 (p := ((Aq l k).toNat : Int) = 41) (by kernel_rfl) (fun c5 => ?_) (fun c5 => ?_)
      ·refine Ap ?_
       refine Av 0 [] [0, 3, 38, 39] [] hk0 v0 (cc 1 (p := (-9223372036854775808 ≤ n - 1 ∧ n - 1 ≤ 9223372036854775807)) (by omega) <| c0) ?_
       refine ⟨by kernel_rfl, ?_, (Eq.trans (b := (⟨[(0, (.str l)), (3, (.int .i64 (n - 1))), (38, (.int .i64 ((l.length : Int)))), (39, (.int .i64 ((k : Int))))], [], 0⟩ : St)) (by kernel_rfl) (by rw [show (if (Aq l k).toNat = 40 then n + 1 else if (Aq l k).toNat = 41 then n - 1 else n) = n - 1 from by (repeat' split) <;> omega]))⟩
       exact hub
      ·refine Ai ?_
       refine ⟨by kernel_rfl, ?_, (Eq.trans (b := (⟨[(0, (.str l)), (3, (.int .i64 n)), (38, (.int .i64 ((l.length : Int)))), (39, (.int .i64 ((k : Int))))], [], 0⟩ : St)) (by kernel_rfl) (by rw [show (if (Aq l k).toNat = 40 then n + 1 else if (Aq l k).toNat = 41 then n - 1 else n) = n from by (repeat' split) <;> omega]))⟩
       exact hub
   ·rintro y1 ⟨hub, rfl⟩
    refine Aa [] [0, 3, 38, 39, 63] ?_
    refine A6 (p := (if (Aq l k).toNat = 40 then n + 1 else if (Aq l k).toNat = 41 then n - 1 else n) < 0) (by kernel_rfl) (fun c6 => ?_) (fun c6 => ?_)
    ·refine Aa [] [2] ?_
     refine Ag ?_
     refine RK wR [(.bool false)] ?_
     exact Same.of_eq (by simp only [Ak]; rw [Bp, f1_2, Ot (by omega) hub]; simp only [if_pos c6]; simp)
    ·refine Ai ?_
     refine Ap ?_
     refine Av 0 [] [0, 3, 38, 39] [] hk0 v0 (cc 0 (p := (-9223372036854775808 ≤ (k : Int) + 1 ∧ (k : Int) + 1 ≤ 9223372036854775807)) (by omega) <| c0) ?_
     refine ⟨by kernel_rfl, _, ?_, k + 1, (if (Aq l k).toNat = 40 then n + 1 else if (Aq l k).toNat = 41 then n - 1 else n), ?_, ?_, ?_, ?_, ?_, (by kernel_rfl), rfl⟩
     ·omega
     ·omega
     ·rw [f1_2, Ot (by omega) hub]; simp only [if_neg c6]
     ·constructor <;> ((repeat' split) <;> omega)
     ·exact f1_4
     ·exact f1_5
  ·refine Br ?_
   refine Aa [] [2] ?_
   refine Ag ?_
   refine RK wR [(.bool (decide (n = 0)))] ?_
   exact Same.of_eq (by simp only [Ak]; rw [Bp, f1_5, f1_2, List.drop_of_length_le (by omega), F4]; simp)
theorem Q3t (s : List UInt8) :
  FnV Tryz.prog 151 [(.str s)] (.bool (Kt s)) := by
 refine A4 [.tmp 2] Tryz.func151 rfl Tryz.ntmps151 rfl rfl (fun B F hF => ?_)
 refine Aa [] [0] ?_
 obtain ⟨b1, hb1⟩ : ∃ b, b = (decide (s = [97, 110, 100])) := ⟨_, rfl⟩
 obtain ⟨b2, hb2⟩ : ∃ b, b = (b1 || (decide (s = [111, 114]))) := ⟨_, rfl⟩
 obtain ⟨b3, hb3⟩ : ∃ b, b = (b2 || (decide (s = [105, 102]))) := ⟨_, rfl⟩
 obtain ⟨b4, hb4⟩ : ∃ b, b = (b3 || (decide (s = [101, 108, 115, 101]))) := ⟨_, rfl⟩
 obtain ⟨b5, hb5⟩ : ∃ b, b = (b4 || (decide (s = [119, 105, 116, 104]))) := ⟨_, rfl⟩
 obtain ⟨b6, hb6⟩ : ∃ b, b = (b5 || (decide (s = [119, 105, 116, 104, 111, 117, 116]))) := ⟨_, rfl⟩
 refine Ah (CS := [(4, ((!b1) = true → (!b1) = true)), (5, (b1 = false → (!b1) = true)), (8, ((!b2) = true → (!b2) = true)), (9, (b2 = false → (!b2) = true)), (12, ((!b3) = true → (!b3) = true)), (13, (b3 = false → (!b3) = true)), (16, ((!b4) = true → (!b4) = true)), (17, (b4 = false → (!b4) = true)), (20, ((!b5) = true → (!b5) = true)), (21, (b5 = false → (!b5) = true))]) [6, 7, 10, 11, 14, 15, 18, 19, 22, 23] [2] [] hk0 (vk 3 5 (a := .bool (decide (s = [97, 110, 100]))) (b := .bool b1) (Imp.of_eq (by rw [hb1])) <| vk 7 9 (a := .bool (b1 || (decide (s = [111, 114])))) (b := .bool b2) (Imp.of_eq (by rw [hb2])) <| vk 11 13 (a := .bool (b2 || (decide (s = [105, 102])))) (b := .bool b3) (Imp.of_eq (by rw [hb3])) <| vk 15 17 (a := .bool (b3 || (decide (s = [101, 108, 115, 101])))) (b := .bool b4) (Imp.of_eq (by rw [hb4])) <| vk 19 21 (a := .bool (b4 || (decide (s = [119, 105, 116, 104])))) (b := .bool b5) (Imp.of_eq (by rw [hb5])) <| vk 22 24 (a := .bool (b5 || (decide (s = [119, 105, 116, 104, 111, 117, 116])))) (b := .bool b6) (Imp.of_eq (by rw [hb6])) <| v0) (by refine cc _ ?_ <| cc _ ?_ <| cc _ ?_ <| cc _ ?_ <| cc _ ?_ <| cc _ ?_ <| cc _ ?_ <| cc _ ?_ <| cc _ ?_ <| cc _ ?_ c0 <;> simp) ?_
 refine Ag ?_
 refine RK wR [(.bool b6)] ?_
 subst hb6 hb5 hb4 hb3 hb2 hb1
 exact Same.of_eq (by simp only [Ak]; unfold Kt; simp only [Bool.or_assoc])
theorem Q4o (s : List UInt8) :
  FnV Tryz.prog 152 [(.str s)] (.int .i64 (Ff s)) := by
 refine A4 [.tmp 2] Tryz.func152 rfl Tryz.ntmps152 rfl rfl (fun B F hF => ?_)
 refine Aa [] [0] ?_
 refine Ad ?_
 refine Aa [] [3] ?_
 refine A1 ?_
 refine Aa [] [3, 4] ?_
 refine A6 (p := s = [60]) (by kernel_rfl) (fun c1 => ?_) (fun c1 => ?_)
 ·refine Aa [] [2] ?_
  refine Ag ?_
  refine RK wR [(.int .i64 1)] ?_
  exact Same.of_eq (by simp only [Ak]; congr 1; simp [Ff, *])
 ·refine Aa [] [3, 6] ?_
  refine A6 (p := s = [61]) (by kernel_rfl) (fun c2 => ?_) (fun c2 => ?_)
  ·refine Aa [] [2] ?_
   refine Ag ?_
   refine RK wR [(.int .i64 2)] ?_
   exact Same.of_eq (by simp only [Ak]; congr 1; simp [Ff, *])
  ·refine Aa [] [3, 8] ?_
   refine A6 (p := s = [60, 61]) (by kernel_rfl) (fun c3 => ?_) (fun c3 => ?_)
   ·refine Aa [] [2] ?_
    refine Ag ?_
    refine RK wR [(.int .i64 3)] ?_
    exact Same.of_eq (by simp only [Ak]; congr 1; simp [Ff, *])
   ·refine Aa [] [3, 10] ?_
    refine A6 (p := s = [62]) (by kernel_rfl) (fun c4 => ?_) (fun c4 => ?_)
    ·refine Aa [] [2] ?_
     refine Ag ?_
     refine RK wR [(.int .i64 4)] ?_
     exact Same.of_eq (by simp only [Ak]; congr 1; simp [Ff, *])
    ·refine Aa [] [3, 12] ?_
     refine A6 (p := s = [60, 62]) (by kernel_rfl) (fun c5 => ?_) (fun c5 => ?_)
     ·refine Aa [] [2] ?_
      refine Ag ?_
      refine RK wR [(.int .i64 5)] ?_
      exact Same.of_eq (by simp only [Ak]; congr 1; simp [Ff, *])
     ·refine Aa [] [3, 14] ?_
      refine A6 (p := s = [62, 61]) (by kernel_rfl) (fun c6 => ?_) (fun c6 => ?_)
      ·refine Aa [] [2] ?_
       refine Ag ?_
       refine RK wR [(.int .i64 6)] ?_
       exact Same.of_eq (by simp only [Ak]; congr 1; simp [Ff, *])
      ·refine Aa [] [16] ?_
       refine A6 (p := s = [60, 61, 62]) (by kernel_rfl) (fun c7 => ?_) (fun c7 => ?_)
       ·refine Aa [] [2] ?_
        refine Ag ?_
        refine RK wR [(.int .i64 7)] ?_
        exact Same.of_eq (by simp only [Ak]; congr 1; simp [Ff, *])
       ·refine Ai ?_
        refine Aa [] [2] ?_
        refine Ag ?_
        refine RK wR [(.int .i64 0)] ?_
        exact Same.of_eq (by simp only [Ak]; congr 1; simp [Ff, *])
theorem Oh (l : List UInt8) (hl : l.length ≤ 9223372036854775807) :
  FnV Tryz.prog 96 [(.str l)] (.bool (Bp l)) := by
 have hp : l.length < 1 ∨ 0 < l.length := by omega
 refine A4 [.tmp 2] Tryz.func96 rfl Tryz.ntmps96 rfl rfl (fun B F hF => ?_)
 refine Aa [] [0] ?_
 refine Ah [] [0, 3] [] (hk 1 X0y (Q3t l) <| hk0) v0 c0 ?_
 refine Ad ?_
 obtain ⟨b1, hb1⟩ : ∃ b, b = (decide ((l.length : Int) < 1)) := ⟨_, rfl⟩
 obtain ⟨b2, hb2⟩ : ∃ b, b = (b1 || (decide (60 < (l.length : Int)))) := ⟨_, rfl⟩
 obtain ⟨b3, hb3⟩ : ∃ b, b = (b2 || (decide (((Aq l 0).toNat : Int) = 40))) := ⟨_, rfl⟩
 obtain ⟨b4, hb4⟩ : ∃ b, b = (b3 || (decide (((Aq l 0).toNat : Int) = 41))) := ⟨_, rfl⟩
 obtain ⟨b5, hb5⟩ : ∃ b, b = (b4 || (Kt l)) := ⟨_, rfl⟩
 have qh1 : (((!b1) = true → (!b1) = true)) ∧ (((!b1) = true → (!b1) = true)) ∧ ((b1 = false → (!b1) = true)) ∧ (((!b2) = true → ((!b2) = true) ∧ (0 ≤ (0 : Int) ∧ 0 < l.length))) ∧ (((!b2) = true → (!b2) = true)) ∧ ((b2 = false → (!b2) = true)) ∧ (((!b3) = true → ((!b3) = true) ∧ (0 ≤ (0 : Int) ∧ 0 < l.length))) ∧ (((!b3) = true → (!b3) = true)) ∧ ((b3 = false → (!b3) = true)) ∧ ((b4 = false → (!b4) = true)) := by
  rcases hp with hp | hp <;> simp_all
 refine Ah [12, 13, 14, 17, 18, 19, 22, 23, 24, 27, 30, 32] [0, 33] [] (hkg 23 (!b5) X0x (fun cg => Q4o l) <| hk0) (vk 4 11 (a := .bool (decide ((l.length : Int) < 1))) (b := .bool b1) (Imp.of_eq (by rw [hb1])) <| vk 9 16 (a := .bool (b1 || (decide (60 < (l.length : Int))))) (b := .bool b2) (Imp.of_eq (by rw [hb2])) <| vk 13 20 (a := .bool (b2 || (decide (((Aq l 0).toNat : Int) = 40)))) (b := .bool b3) (Imp.of_eq (by rw [hb3])) <| vk 18 25 (a := .bool (b3 || (decide (((Aq l 0).toNat : Int) = 41)))) (b := .bool b4) (Imp.of_eq (by rw [hb4])) <| vk 22 29 (a := .bool (b4 || (Kt l))) (b := .bool b5) (Imp.of_eq (by rw [hb5])) <| v0) (cc 5 (p := ((!b1) = true → (!b1) = true)) qh1.1 <| cc 6 (p := ((!b1) = true → (!b1) = true)) qh1.2.1 <| cc 7 (p := (b1 = false → (!b1) = true)) qh1.2.2.1 <| cc 10 (p := ((!b2) = true → ((!b2) = true) ∧ (0 ≤ (0 : Int) ∧ 0 < l.length))) qh1.2.2.2.1 <| cc 11 (p := ((!b2) = true → (!b2) = true)) qh1.2.2.2.2.1 <| cc 12 (p := (b2 = false → (!b2) = true)) qh1.2.2.2.2.2.1 <| cc 15 (p := ((!b3) = true → ((!b3) = true) ∧ (0 ≤ (0 : Int) ∧ 0 < l.length))) qh1.2.2.2.2.2.2.1 <| cc 16 (p := ((!b3) = true → (!b3) = true)) qh1.2.2.2.2.2.2.2.1 <| cc 17 (p := (b3 = false → (!b3) = true)) qh1.2.2.2.2.2.2.2.2.1 <| cc 20 (p := (b4 = false → (!b4) = true)) qh1.2.2.2.2.2.2.2.2.2 <| cc 23 (p := (!b5) = true → (!b5) = true) (by simp) <| cc 24 (p := ((!b5) = true → (!b5) = true)) (by simp) <| cc 25 (p := (b5 = false → (!b5) = true)) (by simp) <| c0) ?_
 refine Bd (q := b5 || (!decide ((Ff l) = 0))) (by kernel_rfl) (fun c1 => ?_) (fun c1 => ?_)
 ·subst hb5 hb4 hb3 hb2 hb1
  try simp only [Ao] at c1
  refine Aa [] [2] ?_
  refine Ag ?_
  refine RK wR [(.bool false)] ?_
  have h0 : F7 l = true := by
   rw [← Vw]
   unfold Oi
   rcases c1 with ((((h | h) | h) | h) | h) | h <;> first | (simp [h]; done) | (have h' : l.length < 1 := (by omega); simp [h']; done) | (have h' : 60 < l.length := (by omega); simp [h']; done) | (have h' : (Aq l 0).toNat = 40 := (by omega); simp [h']; done) | (have h' : (Aq l 0).toNat = 41 := (by omega); simp [h']; done) | (have h' : ¬ Ff l = 0 := (by omega); simp [h']; done)
  exact Same.of_eq (by simp only [Ak]; rw [Bp, h0]; rfl)
 ·subst hb5 hb4 hb3 hb2 hb1
  try simp only [Ao] at c1
  have hnh : F7 l = false := by
   rw [← Vw]
   unfold Oi
   simp only [Bool.or_eq_false_iff, decide_eq_false_iff_not]
   exact ⟨by omega, by omega, by omega, by omega, c1.1.2, by omega⟩
  refine Ai ?_
  refine Aa [] [0, 4] ?_
  refine Ad ?_
  refine Aa [] [0, 4, 5] ?_
  refine A1 ?_
  refine Bv (fun g y => ∃ (k : Nat) (n : Int), k ≤ l.length ∧ F4 l 0 = F4 (l.drop k) n ∧ (0 ≤ n ∧ n ≤ k) ∧ l.length ≤ 60 ∧ F7 l = false ∧ y = ⟨[(0, (.str l)), (4, (.int .i64 n)), (5, (.int .i64 ((k : Int))))], [], 0⟩ ∧ g = l.length - k) [0, 4, 5] 0 _ (by omega) ⟨0, 0, (by omega), (by rfl), (by omega), (by exact Y7 hnh), (by exact hnh), (by kernel_rfl), rfl⟩ ?_
  rintro g1 y1 ⟨k, n, f1_1, f1_2, f1_3, f1_4, f1_5, rfl, rfl⟩
  refine Ad ?_
  refine Aa [] [0, 4, 5, 37] ?_
  refine A6 (p := (k : Int) < (l.length : Int)) (by kernel_rfl) (fun c2 => ?_) (fun c2 => ?_)
  ·refine Ai ?_
   refine Ad ?_
   refine A1 ?_
   refine Ad ?_
   obtain ⟨b6, hb6⟩ : ∃ b, b = (decide (((Aq l k).toNat : Int) < 33)) := ⟨_, rfl⟩
   refine Ah (CS := [(2, (0 ≤ (k : Int) ∧ k < l.length)), (7, ((!b6) = true → ((!b6) = true ∧ (!b6) = true) ∧ (0 ≤ (k : Int) ∧ k < l.length))), (8, ((!b6) = true → (!b6) = true)), (9, (b6 = false → (!b6) = true))]) [45, 46, 47, 48] [0, 4, 5, 49] [] hk0 (vk 5 44 (a := .bool (decide (((Aq l k).toNat : Int) < 33))) (b := .bool b6) (Imp.of_eq (by rw [hb6])) <| v0) (by refine cc _ ?_ <| cc _ ?_ <| cc _ ?_ <| cc _ ?_ c0 <;> (intros; simp_all; done)) ?_
   refine Bd (q := b6 || (decide (126 < ((Aq l k).toNat : Int)))) (by kernel_rfl) (fun c3 => ?_) (fun c3 => ?_)
   ·subst hb6
    try simp only [Ao] at c3
    have hub : (Aq l k).toNat < 33 ∨ 126 < (Aq l k).toNat := by omega
    refine Aa [] [2] ?_
    refine Ag ?_
    refine RK wR [(.bool false)] ?_
    exact Same.of_eq (by simp only [Ak]; rw [Bp, f1_2, Ja (by omega), F4, if_pos hub]; simp)
   ·subst hb6
    try simp only [Ao] at c3
    have hub : ¬ ((Aq l k).toNat < 33 ∨ 126 < (Aq l k).toNat) := by omega
    refine Ai ?_
    refine Dt (fun y => y = ⟨[(0, (.str l)), (4, (.int .i64 ((if (Aq l k).toNat = 40 then n + 1 else n)))), (5, (.int .i64 ((k : Int))))], [], 0⟩) [0, 4, 5] 0 (by omega) ?_ ?_
    ·refine Ah [] [0, 4, 5, 53] [] hk0 v0 (cc 2 (p := (0 ≤ (k : Int) ∧ k < l.length)) (by omega) <| c0) ?_
     refine A6 (p := ((Aq l k).toNat : Int) = 40) (by kernel_rfl) (fun c4 => ?_) (fun c4 => ?_)
     ·refine Ap ?_
      refine Av 0 [] [0, 4, 5] [] hk0 v0 (cc 1 (p := (-9223372036854775808 ≤ n + 1 ∧ n + 1 ≤ 9223372036854775807)) (by omega) <| c0) ?_
      refine ⟨by kernel_rfl, (Eq.trans (b := (⟨[(0, (.str l)), (4, (.int .i64 (n + 1))), (5, (.int .i64 ((k : Int))))], [], 0⟩ : St)) (by kernel_rfl) (by rw [show (if (Aq l k).toNat = 40 then n + 1 else n) = n + 1 from if_pos (by omega)]))⟩
     ·refine Ai ?_
      refine ⟨by kernel_rfl, (Eq.trans (b := (⟨[(0, (.str l)), (4, (.int .i64 n)), (5, (.int .i64 ((k : Int))))], [], 0⟩ : St)) (by kernel_rfl) (by rw [show (if (Aq l k).toNat = 40 then n + 1 else n) = n from if_neg (by omega)]))⟩
    ·rintro y1 rfl
     refine Dt (fun y => y = ⟨[(0, (.str l)), (4, (.int .i64 ((if (Aq l k).toNat = 40 then n + 1 else if (Aq l k).toNat = 41 then n - 1 else n)))), (5, (.int .i64 ((k : Int))))], [], 0⟩) [0, 4, 5] 0 (by omega) ?_ ?_
     ·refine Ah [] [0, 4, 5, 59] [] hk0 v0 (cc 2 (p := (0 ≤ (k : Int) ∧ k < l.length)) (by omega) <| c0) ?_
      refine A6 (p := ((Aq l k).toNat : Int) = 41) (by kernel_rfl) (fun c5 => ?_) (fun c5 => ?_)
      ·refine Ap ?_
       refine Av 0 [] [0, 4, 5] [] hk0 v0 (cc 1 (p := (-9223372036854775808 ≤ (if (Aq l k).toNat = 40 then n + 1 else n) - 1 ∧ (if (Aq l k).toNat = 40 then n + 1 else n) - 1 ≤ 9223372036854775807)) (by omega) <| c0) ?_
       refine ⟨by kernel_rfl, (Eq.trans (b := (⟨[(0, (.str l)), (4, (.int .i64 ((if (Aq l k).toNat = 40 then n + 1 else n) - 1))), (5, (.int .i64 ((k : Int))))], [], 0⟩ : St)) (by kernel_rfl) (by rw [show (if (Aq l k).toNat = 40 then n + 1 else if (Aq l k).toNat = 41 then n - 1 else n) = (if (Aq l k).toNat = 40 then n + 1 else n) - 1 from by (repeat' split) <;> omega]))⟩
      ·refine Ai ?_
       refine ⟨by kernel_rfl, (Eq.trans (b := (⟨[(0, (.str l)), (4, (.int .i64 ((if (Aq l k).toNat = 40 then n + 1 else n)))), (5, (.int .i64 ((k : Int))))], [], 0⟩ : St)) (by kernel_rfl) (by rw [show (if (Aq l k).toNat = 40 then n + 1 else if (Aq l k).toNat = 41 then n - 1 else n) = (if (Aq l k).toNat = 40 then n + 1 else n) from by (repeat' split) <;> omega]))⟩
     ·rintro y2 rfl
      refine Aa [] [0, 4, 5, 63] ?_
      refine A6 (p := (if (Aq l k).toNat = 40 then n + 1 else if (Aq l k).toNat = 41 then n - 1 else n) < 0) (by kernel_rfl) (fun c6 => ?_) (fun c6 => ?_)
      ·refine Aa [] [2] ?_
       refine Ag ?_
       refine RK wR [(.bool false)] ?_
       exact Same.of_eq (by simp only [Ak]; rw [Bp, f1_2, Ot (by omega) hub]; simp only [if_pos c6]; simp)
      ·refine Ai ?_
       refine Ap ?_
       refine Av 0 [] [0, 4, 5] [] hk0 v0 (cc 1 (p := (-9223372036854775808 ≤ (k : Int) + 1 ∧ (k : Int) + 1 ≤ 9223372036854775807)) (by omega) <| c0) ?_
       refine ⟨by kernel_rfl, _, ?_, k + 1, (if (Aq l k).toNat = 40 then n + 1 else if (Aq l k).toNat = 41 then n - 1 else n), ?_, ?_, ?_, ?_, ?_, (by kernel_rfl), rfl⟩
       ·omega
       ·omega
       ·rw [f1_2, Ot (by omega) hub]; simp only [if_neg c6]
       ·constructor <;> ((repeat' split) <;> omega)
       ·exact f1_4
       ·exact f1_5
  ·refine Br ?_
   refine Aa [] [2] ?_
   refine Ag ?_
   refine RK wR [(.bool (decide (n = 0)))] ?_
   exact Same.of_eq (by simp only [Ak]; rw [Bp, f1_5, f1_2, List.drop_of_length_le (by omega), F4]; simp)
end Sv
end Go.Proofs.YtlmloohlmlahfaaGreatDoor
end
section
namespace Go.Proofs.YtlmloohlmlahfaaGreatDoor
open Go Go.RowKit
namespace Sv
attribute [local irreducible] SW SO Bn
set_option maxHeartbeats 400000
set_option maxRecDepth 100000
theorem Hw : Au Tryz.prog 160 := Ay Tryz.func160 (by kernel_rfl) rfl
theorem Lu : Au Tryz.prog 161 := Ay Tryz.func161 (by kernel_rfl) rfl
theorem G9 : Au Tryz.prog 163 := Ay Tryz.func163 (by kernel_rfl) rfl
theorem Q0f : Au Tryz.prog 215 := Ay Tryz.func215 (by kernel_rfl) rfl
theorem Pq : Au Tryz.prog 181 := Ay Tryz.func181 (by kernel_rfl) rfl
def Bh (c : UInt8) : Bool := decide (48 ≤ c.toNat) && decide (c.toNat ≤ 57)
def B4 (c : UInt8) : Bool := (decide (97 ≤ c.toNat) && decide (c.toNat ≤ 122)) || (decide (65 ≤ c.toNat) && decide (c.toNat ≤ 90))
def A8 (p : UInt8 → Bool) (s : List UInt8) : Nat := (s.takeWhile p).length
theorem Ii (p : UInt8 → Bool) : ∀ s : List UInt8, A8 p s ≤ s.length
 | [] => Nat.le_refl _
 | a :: r => by
  have := Ii p r
  unfold A8 at this ⊢
  rw [List.takeWhile_cons]
  split <;> simp <;> omega
theorem Q07 {p : UInt8 → Bool} : ∀ {s : List UInt8} {i : Nat}, i < s.length → (∀ j, j < i → p (Aq s j) = true) → p (Aq s i) = false → A8 p s = i
 | [], _, h, _, _ => by simp at h
 | a :: r, 0, _, _, h => by
  have h : p a = false := h
  unfold A8; rw [List.takeWhile_cons, h]; rfl
 | a :: r, i + 1, hi, h, hp => by
  have h0 : p a = true := h 0 (by omega)
  have := Q07 (s := r) (i := i) (by simpa using hi) (fun j hj => h (j + 1) (by omega)) hp
  unfold A8 at this ⊢
  rw [List.takeWhile_cons, h0]
  simp [this]
theorem Q08 {p : UInt8 → Bool} : ∀ {s : List UInt8}, (∀ j, j < s.length → p (Aq s j) = true) → A8 p s = s.length
 | [], _ => rfl
 | a :: r, h => by
  have h0 : p a = true := h 0 (by simp)
  have := Q08 (s := r) (fun j hj => h (j + 1) (by simpa using hj))
  unfold A8 at this ⊢
  rw [List.takeWhile_cons, h0]
  simp [this]
def Fj (a b : Bool) (g : Int) : Int := if (a && !b) = true then g else if (b && !a) = true then -g else 0
def Dh (s : List UInt8) : Int := if s = [] ∨ Bh (Aq s 0) = true then 0 else if (Aq s 0).toNat = 126 then -1 else if B4 (Aq s 0) = true then (Aq s 0).toNat else 256 + ((Aq s 0).toNat : Int)
theorem Ih (c : UInt8) :
  FnV Tryz.prog 160 [(.int .u8 ((c.toNat : Int)))] (.bool (Bh c)) := by
 refine A4 [.tmp 2] Tryz.func160 rfl Tryz.ntmps160 rfl rfl (fun B F hF => ?_)
 refine Aa [] [0] ?_
 obtain ⟨b1, hb1⟩ : ∃ b, b = (decide (48 ≤ (c.toNat : Int))) := ⟨_, rfl⟩
 refine Ah (CS := [(4, (b1 = true → b1 = true)), (5, (b1 = true → b1 = true))]) [6, 7] [2] [] hk0 (vk 3 5 (a := .bool (decide (48 ≤ (c.toNat : Int)))) (b := .bool b1) (Imp.of_eq (by rw [hb1])) <| v0) (by refine cc _ ?_ <| cc _ ?_ c0 <;> simp) ?_
 refine Ag ?_
 refine RK wR [(.bool (b1 && (decide ((c.toNat : Int) ≤ 57))))] ?_
 subst hb1
 refine Same.of_eq ?_
 simp only [Ak]
 congr 1
 unfold Bh
 rw [Bool.eq_iff_iff]
 simp only [Bool.and_eq_true, Bool.or_eq_true, decide_eq_true_eq]
 omega
theorem M2 (c : UInt8) :
  FnV Tryz.prog 161 [(.int .u8 ((c.toNat : Int)))] (.bool (B4 c)) := by
 refine A4 [.tmp 2] Tryz.func161 rfl Tryz.ntmps161 rfl rfl (fun B F hF => ?_)
 refine Aa [] [0] ?_
 obtain ⟨b1, hb1⟩ : ∃ b, b = (decide (97 ≤ (c.toNat : Int))) := ⟨_, rfl⟩
 obtain ⟨b2, hb2⟩ : ∃ b, b = (b1 && (decide ((c.toNat : Int) ≤ 122))) := ⟨_, rfl⟩
 obtain ⟨b3, hb3⟩ : ∃ b, b = (b2 || ((decide (65 ≤ (c.toNat : Int))) && (decide ((c.toNat : Int) ≤ 90)))) := ⟨_, rfl⟩
 refine Ah (CS := [(4, (b1 = true → b1 = true)), (5, (b1 = true → b1 = true)), (8, ((!b2) = true → (!b2) = true)), (9, ((!b2) = true → (!b2) = true)), (11, (((!b2) && (decide (65 ≤ (c.toNat : Int)))) = true → ((!b2) && (decide (65 ≤ (c.toNat : Int)))) = true)), (12, ((!b2) = true → ((!b2) = true) ∧ ((decide (65 ≤ (c.toNat : Int))) = true → ((!b2) && (decide (65 ≤ (c.toNat : Int)))) = true))), (13, (b2 = false → (!b2) = true))]) [6, 7, 10, 11, 12, 13, 14, 15] [2] [] hk0 (vk 3 5 (a := .bool (decide (97 ≤ (c.toNat : Int)))) (b := .bool b1) (Imp.of_eq (by rw [hb1])) <| vk 7 9 (a := .bool (b1 && (decide ((c.toNat : Int) ≤ 122)))) (b := .bool b2) (Imp.of_eq (by rw [hb2])) <| vk 14 16 (a := .bool (b2 || ((decide (65 ≤ (c.toNat : Int))) && (decide ((c.toNat : Int) ≤ 90))))) (b := .bool b3) (Imp.of_eq (by rw [hb3])) <| v0) (by refine cc _ ?_ <| cc _ ?_ <| cc _ ?_ <| cc _ ?_ <| cc _ ?_ <| cc _ ?_ <| cc _ ?_ c0 <;> (intros; simp_all; done)) ?_
 refine Ag ?_
 refine RK wR [(.bool b3)] ?_
 subst hb3 hb2 hb1
 refine Same.of_eq ?_
 simp only [Ak]
 congr 1
 unfold B4
 rw [Bool.eq_iff_iff]
 simp only [Bool.and_eq_true, Bool.or_eq_true, decide_eq_true_eq]
 omega
theorem Ov (a b : Bool) (g : Int) (hg : -1 ≤ g ∧ g ≤ 1) :
  FnV Tryz.prog 181 [(.bool a), (.bool b), (.int .i64 g)] (.int .i64 (Fj a b g)) := by
 refine A4 [.tmp 6] Tryz.func181 rfl Tryz.ntmps181 rfl rfl (fun B F hF => ?_)
 refine Aa [] [0, 1, 2] ?_
 refine Ad ?_
 refine A1 ?_
 refine Ah (CS := [(3, (a = true → a = true)), (4, (a = true → a = true))]) [10, 11] [0, 1, 2, 7] [] hk0 v0 (by refine cc _ ?_ <| cc _ ?_ c0 <;> simp) ?_
 refine Bd (q := a && (!b)) (by kernel_rfl) (fun c1 => ?_) (fun c1 => ?_)
 ·try simp only [Ao] at c1
  refine Aa [] [6] ?_
  refine Ag ?_
  refine RK wR [(.int .i64 g)] ?_
  refine Same.of_eq ?_
  simp only [Ak]
  congr 1
  unfold Fj
  cases a <;> cases b <;> first | rfl | (show 0 - g = -g; omega) | (simp at c1; done) | (simp at c2; done) | contradiction
 ·try simp only [Ao] at c1
  refine Ah (CS := [(3, (b = true → b = true)), (4, (b = true → b = true))]) [17, 18] [2, 14] [] hk0 v0 (by refine cc _ ?_ <| cc _ ?_ c0 <;> simp) ?_
  refine Bd (q := b && (!a)) (by kernel_rfl) (fun c2 => ?_) (fun c2 => ?_)
  ·try simp only [Ao] at c2
   refine Ah [] [6] [] hk0 v0 (cc 1 (p := (-9223372036854775808 ≤ 0 - g ∧ 0 - g ≤ 9223372036854775807)) (by omega) <| c0) ?_
   refine Ag ?_
   refine RK wR [(.int .i64 (0 - g))] ?_
   refine Same.of_eq ?_
   simp only [Ak]
   congr 1
   unfold Fj
   cases a <;> cases b <;> first | rfl | (show 0 - g = -g; omega) | (simp at c1; done) | (simp at c2; done) | contradiction
  ·try simp only [Ao] at c2
   refine Ai ?_
   refine Aa [] [6] ?_
   refine Ag ?_
   refine RK wR [(.int .i64 0)] ?_
   refine Same.of_eq ?_
   simp only [Ak]
   congr 1
   unfold Fj
   cases a <;> cases b <;> first | rfl | (show 0 - g = -g; omega) | (simp at c1; done) | (simp at c2; done) | contradiction
theorem Hz (s : List UInt8) (a : AV) (p : UInt8 → Bool) (hl : s.length ≤ 9223372036854775806) (ha : ∀ c : UInt8, FunV Tryz.prog a [.int .u8 (c.toNat : Int)] (.bool (p c))) :
  FnV Tryz.prog 163 [(.str s), (.clo a)] (.int .i64 ((A8 p s : Int))) := by
 refine A4 [.tmp 4] Tryz.func163 rfl Tryz.ntmps163 rfl rfl (fun B F hF => ?_)
 refine Aa [] [0, 1] ?_
 refine Aa [] [0, 1, 5] ?_
 refine Ad ?_
 refine A1 ?_
 refine Bv (fun g y => ∃ (i : Nat), i ≤ s.length ∧ (∀ j, j < i → p (Aq s j) = true) ∧ y = ⟨[(0, (.str s)), (1, (.clo a)), (5, (.int .i64 ((i : Int))))], [], 0⟩ ∧ g = s.length - i) [0, 1, 5] 0 _ (by omega) ⟨0, (by omega), (by exact fun j hj => by omega), (by kernel_rfl), rfl⟩ ?_
 rintro g1 y1 ⟨i, f1_1, f1_2, rfl, rfl⟩
 refine Ad ?_
 refine Ad ?_
 refine Ap ?_
 obtain ⟨b1, hb1⟩ : ∃ b, b = (decide ((i : Int) < (s.length : Int))) := ⟨_, rfl⟩
 refine Bq 5 0 [] [0, 1, 5, 10] [] hk0 v0 c0 ?_
 refine Fu 10 (a := .bool (decide ((i : Int) < (s.length : Int)))) (.bool b1) (by kernel_rfl) (Imp.of_eq (by rw [hb1])) ?_
 refine P3 b1 (fun c1 => ?_) (fun c1 => ?_)
 ·refine Fu 10 (a := .bool b1) (.bool true) (by kernel_rfl) (Imp.of_eq (by rw [c1])) ?_
  refine Bq 4 5 [] [0, 1, 5, 10, 11, 14] [] hk0 v0 (cc 8 (p := (0 ≤ (i : Int) ∧ i < s.length)) (by (intros; simp_all; done)) <| c0) ?_
  refine Fd (s' := [(0, (.str s)), (1, (.clo a)), (5, (.int .i64 ((i : Int)))), (10, (.bool true)), (11, (.clo a)), (14, (.int .u8 (((Aq s i).toNat : Int)))), (15, (.bool (p (Aq s i))))]) (a := (.clo a)) (al := [(.int .u8 (((Aq s i).toNat : Int)))]) (r := (.bool (p (Aq s i)))) (by kernel_rfl) (by kernel_rfl) (by kernel_rfl) (by kernel_rfl) (by kernel_rfl) ((ha (Aq s i)).clo) (by kernel_rfl) ?_
  refine Av 10 [] [0, 1, 5, 16] [] hk0 v0 c0 ?_
  refine Bd (q := p (Aq s i)) (by kernel_rfl) (fun c2 => ?_) (fun c2 => ?_)
  ·subst hb1
   try simp only [Ao] at c2
   refine Ai ?_
   refine A1 ?_
   refine Ap ?_
   refine Av 0 [] [0, 1, 5] [] hk0 v0 (cc 1 (p := (-9223372036854775808 ≤ (i : Int) + 1 ∧ (i : Int) + 1 ≤ 9223372036854775807)) (by omega) <| c0) ?_
   refine ⟨by kernel_rfl, _, ?_, i + 1, ?_, ?_, (by kernel_rfl), rfl⟩
   ·simp_all; omega
   ·simp_all; omega
   ·intro j hj
    by_cases h : j = i
    ·subst h; assumption
    ·exact f1_2 j (by omega)
  ·subst hb1
   try simp only [Ao] at c2
   refine Br ?_
   refine Aa [] [4] ?_
   refine Ag ?_
   refine RK wR [(.int .i64 ((i : Int)))] ?_
   exact Same.of_eq (by simp only [Ak]; rw [Q07 (i := i) (by simp_all) f1_2 (by simp_all)])
 ·refine Fu 10 (a := .bool b1) (.bool false) (by kernel_rfl) (Imp.of_eq (by rw [c1])) ?_
  refine Av 5 [] [0, 1, 5, 16] [] hk0 v0 c0 ?_
  refine Ei (by kernel_rfl) ?_
  refine Br ?_
  refine Aa [] [4] ?_
  refine Ag ?_
  refine RK wR [(.int .i64 ((i : Int)))] ?_
  subst hb1
  exact Same.of_eq (by simp only [Ak]; rw [Q08 (fun j hj => f1_2 j (by simp_all; omega))]; congr 2; simp_all; omega)
theorem Ut (s : List UInt8) :
  FnV Tryz.prog 215 [(.str s)] (.int .i64 (Dh s)) := by
 have hb := (Aq s 0).toNat_lt
 have hp : s = [] ∨ 0 < s.length := by cases s <;> simp
 refine A4 [.tmp 2] Tryz.func215 rfl Tryz.ntmps215 rfl rfl (fun B F hF => ?_)
 refine Aa [] [0] ?_
 refine Ad ?_
 refine A1 ?_
 obtain ⟨b1, hb1⟩ : ∃ b, b = (decide (s = [])) := ⟨_, rfl⟩
 have qh1 : (((!b1) = true → ((!b1) = true) ∧ (0 ≤ (0 : Int) ∧ 0 < s.length))) := by
  rcases hp with hp | hp <;> first | (simp_all; done) | omega | (simp_all; omega) | (simp; omega)
 refine Ah [7, 8] [0, 3] [] (hkg 5 (!b1) Hw (fun cg => Ih (Aq s 0)) <| hk0) (vk 3 6 (a := .bool (decide (s = []))) (b := .bool b1) (Imp.of_eq (by rw [hb1])) <| v0) (cc 4 (p := ((!b1) = true → ((!b1) = true) ∧ (0 ≤ (0 : Int) ∧ 0 < s.length))) qh1 <| cc 5 (p := (!b1) = true → (!b1) = true) (by simp) <| cc 6 (p := (b1 = false → (!b1) = true)) (by simp) <| c0) ?_
 refine Bd (q := b1 || (Bh (Aq s 0))) (by kernel_rfl) (fun c1 => ?_) (fun c1 => ?_)
 ·subst hb1
  try simp only [Ao] at c1
  refine Aa [] [2] ?_
  refine Ag ?_
  refine RK wR [(.int .i64 0)] ?_
  refine Same.of_eq ?_
  simp only [Ak]
  congr 1
  unfold Dh
  rw [if_pos c1]
 ·subst hb1
  try simp only [Ao] at c1
  have qh2 : ((0 ≤ (0 : Int) ∧ 0 < s.length)) := by
   rcases hp with hp | hp <;> first | (simp_all; done) | omega | (simp_all; omega) | (simp; omega)
  refine Ah [] [0, 11] [] hk0 v0 (cc 1 (p := (0 ≤ (0 : Int) ∧ 0 < s.length)) qh2 <| c0) ?_
  refine A6 (p := ((Aq s 0).toNat : Int) = 126) (by kernel_rfl) (fun c2 => ?_) (fun c2 => ?_)
  ·refine Aa [] [2] ?_
   refine Ag ?_
   refine RK wR [(.int .i64 (-1))] ?_
   refine Same.of_eq ?_
   simp only [Ak]
   congr 1
   unfold Dh
   rw [if_neg (by simp_all), if_pos (by omega)]
  ·have qh3 : ((0 ≤ (0 : Int) ∧ 0 < s.length)) := by
    rcases hp with hp | hp <;> first | (simp_all; done) | omega | (simp_all; omega) | (simp; omega)
   refine Ah [] [0, 15] [] (hk 2 Lu (M2 (Aq s 0)) <| hk0) v0 (cc 1 (p := (0 ≤ (0 : Int) ∧ 0 < s.length)) qh3 <| c0) ?_
   refine Bd (q := B4 (Aq s 0)) (by kernel_rfl) (fun c3 => ?_) (fun c3 => ?_)
   ·try simp only [Ao] at c3
    have qh4 : ((0 ≤ (0 : Int) ∧ 0 < s.length)) ∧ ((-9223372036854775808 ≤ ((Aq s 0).toNat : Int) ∧ ((Aq s 0).toNat : Int) ≤ 9223372036854775807)) := by
     rcases hp with hp | hp <;> first | (simp_all; done) | omega | (simp_all; omega) | (simp; omega)
    refine Ah [] [2] [] hk0 v0 (cc 1 (p := (0 ≤ (0 : Int) ∧ 0 < s.length)) qh4.1 <| cc 2 (p := (-9223372036854775808 ≤ ((Aq s 0).toNat : Int) ∧ ((Aq s 0).toNat : Int) ≤ 9223372036854775807)) qh4.2 <| c0) ?_
    refine Ag ?_
    refine RK wR [(.int .i64 (((Aq s 0).toNat : Int)))] ?_
    refine Same.of_eq ?_
    simp only [Ak]
    congr 1
    unfold Dh
    rw [if_neg (by simp_all), if_neg (by omega), if_pos (by assumption)]
   ·try simp only [Ao] at c3
    refine Ai ?_
    have qh5 : ((0 ≤ (0 : Int) ∧ 0 < s.length)) ∧ ((-9223372036854775808 ≤ ((Aq s 0).toNat : Int) ∧ ((Aq s 0).toNat : Int) ≤ 9223372036854775807)) ∧ ((-9223372036854775808 ≤ 256 + ((Aq s 0).toNat : Int) ∧ 256 + ((Aq s 0).toNat : Int) ≤ 9223372036854775807)) := by
     rcases hp with hp | hp <;> first | (simp_all; done) | omega | (simp_all; omega) | (simp; omega)
    refine Ah [] [2] [] hk0 v0 (cc 1 (p := (0 ≤ (0 : Int) ∧ 0 < s.length)) qh5.1 <| cc 2 (p := (-9223372036854775808 ≤ ((Aq s 0).toNat : Int) ∧ ((Aq s 0).toNat : Int) ≤ 9223372036854775807)) qh5.2.1 <| cc 3 (p := (-9223372036854775808 ≤ 256 + ((Aq s 0).toNat : Int) ∧ 256 + ((Aq s 0).toNat : Int) ≤ 9223372036854775807)) qh5.2.2 <| c0) ?_
    refine Ag ?_
    refine RK wR [(.int .i64 (256 + ((Aq s 0).toNat : Int)))] ?_
    refine Same.of_eq ?_
    simp only [Ak]
    congr 1
    unfold Dh
    rw [if_neg (by simp_all), if_neg (by omega), if_neg (by simp_all)]
end Sv
end Go.Proofs.YtlmloohlmlahfaaGreatDoor
end
section
namespace Go.Proofs.YtlmloohlmlahfaaGreatDoor
open Go Go.RowKit
set_option linter.unusedSimpArgs false
set_option linter.unusedVariables false
namespace Sv
theorem Q2y (s : List UInt8) (c : UInt8) (hc : c.toNat < 128) : FnV Tryz.prog 145 [.str s, .str [c]] (.str (Lib.trimLeftB s c)) := by
  intro F w vs hF hv
  obtain ⟨v, r1, rfl, h1, hv⟩ := hv.cons_inv
  obtain ⟨v2, rfl, h2⟩ := hv.single_inv
  simp only [VR] at h1 h2
  subst h1 h2
  refine (Tryz.strings_TrimLeft_one ⟨s.toArray⟩ c hc w).mono ?_
  rintro e w' ⟨he, rfl⟩
  exact ⟨_, he, Below.refl _ _, F, fun _ _ e => e, hF, fun _ _ e => .inl e, by simp only [VR, List.toList_toArray]⟩
theorem Q3k (a b : List UInt8) : FnV Tryz.prog 214 [.str a, .str b] (.int .i64 (Lib.compareBytes a b)) := by
  intro F w vs hF hv
  obtain ⟨v, r1, rfl, h1, hv⟩ := hv.cons_inv
  obtain ⟨v2, rfl, h2⟩ := hv.single_inv
  simp only [VR] at h1 h2
  subst h1 h2
  refine (Tryz.strings_Compare ⟨a.toArray⟩ ⟨b.toArray⟩ w).mono ?_
  rintro e w' ⟨he, rfl⟩
  exact ⟨_, he, Below.refl _ _, F, fun _ _ e => e, hF, fun _ _ e => .inl e, by simp only [VR, List.toList_toArray]⟩
end Sv
end Go.Proofs.YtlmloohlmlahfaaGreatDoor
end
section
namespace Go.Proofs.YtlmloohlmlahfaaGreatDoor
open Go Go.RowKit
namespace Sv
attribute [local irreducible] SW SO Bn
set_option maxHeartbeats 1000000
set_option maxRecDepth 100000
theorem FnV.of_plain {P : Program} {f : Nat} {al : List AV} {r : AV} (vs0 : List Value) (rv : Value) (ha : ∀ F vs, VRl (ofF F) al vs → vs = vs0) (hr : ∀ F, VR (ofF F) r rv) (h : ∀ w : World, Calls P f vs0.toArray w (Ret fun v w' => v = rv ∧ Below w.heap.size w w')) : FnV P f al r := by
 intro F w vs hF hv
 rw [ha F vs hv]
 refine (h w).mono ?_
 rintro e w' ⟨v, he, rfl, hb⟩
 exact ⟨_, he, hb, F, fun _ _ e => e, fun b o e => (hb.block b (Ez (hF b o e))).trans (hF b o e), fun _ _ e => .inl e, hr F⟩
theorem Rf {P : Program} {f : Nat} {vs : Array Value} {w : World} {rv : Value} (h : Calls P f vs w (Ret fun v w' => v = rv ∧ w = w')) : Calls P f vs w (Ret fun v w' => v = rv ∧ Below w.heap.size w w') :=
 h.mono fun e w' hh => by
  obtain ⟨v, he, h1, rfl⟩ := hh
  exact ⟨v, he, h1, Below.refl _ _⟩
theorem N1 {F : Nat → Option Obj} {a b : AV} {x y : Value} (ha : ∀ F v, VR (ofF F) a v → v = x) (hb : ∀ F v, VR (ofF F) b v → v = y) {vs : List Value} (h : VRl (ofF F) [a, b] vs) : vs = [x, y] := by
 obtain ⟨v, r1, rfl, h1, hv⟩ := h.cons_inv
 obtain ⟨v2, rfl, h2⟩ := hv.single_inv
 rw [ha _ _ h1, hb _ _ h2]
theorem Kv {l : List UInt8} : ∀ F v, VR (ofF F) (.str l) v → v = Go.Proofs.YtlmloohlmlahfaaGreatDoor.S l := fun F v h => by simpa only [VR] using h
theorem Yq {k : IntKind} {n : Int} : ∀ F v, VR (ofF F) (.int k n) v → v = .int k n := fun F v h => by simpa only [VR] using h
theorem X49 (l : List UInt8) (c : UInt8) : FnV Tryz.prog 162 [.str l, .int .u8 (c.toNat : Int)] (.int .i64 (Lib.indexByte l c)) :=
 FnV.of_plain [S l, .int .u8 (c.toNat : Int)] (.int .i64 (Lib.indexByte l c)) (fun _ _ h => N1 Kv Yq h) (fun _ => by simp only [VR]) fun w => Rf (X48 l c w)
theorem X46 (l : List UInt8) (hl : l.length ≤ 9223372036854775807) : FnV Tryz.prog 165 [.str l, .int .u8 45] (.int .i64 (Bw l 45 l.length)) :=
 FnV.of_plain [S l, .int .u8 45] (.int .i64 (Bw l 45 l.length)) (fun _ _ h => N1 Kv Yq h) (fun _ => by simp only [VR]) fun w => Rf (X45 l 45 w hl)
theorem X5h (l : List UInt8) : FnV Tryz.prog 166 [.str l, .str [58]] (.bool (l.contains 58)) :=
 FnV.of_plain [S l, S [58]] (.bool (l.contains 58)) (fun _ _ h => N1 Kv Kv h) (fun _ => by simp only [VR]) fun w => Rf (X5g l 58 w)
theorem X5f (l : List UInt8) (hl : l.length ≤ 9223372036854775807) : FnV Tryz.prog 164 [.str l, .str [58]] (.tup [.str (if 0 ≤ Lib.indexByte l 58 then l.take (Lib.indexByte l 58).toNat else l), .str (if 0 ≤ Lib.indexByte l 58 then l.drop ((Lib.indexByte l 58).toNat + 1) else []), .bool (decide (0 ≤ Lib.indexByte l 58))]) := by
 refine FnV.of_plain [S l, S [58]] (Hy l 58) (fun _ _ h => N1 Kv Kv h) (fun F => ?_) fun w => ?_
 ·unfold Hy
  by_cases h : 0 ≤ Lib.indexByte l 58
  ·rw [if_pos h, if_pos h, if_pos h, decide_eq_true h]
   simp only [VR]; exact ⟨_, .cons (by simp only [VR]) (.cons (by simp only [VR]) (.cons (by simp only [VR]) .nil)), rfl⟩
  ·rw [if_neg h, if_neg h, if_neg h, decide_eq_false h]
   simp only [VR]; exact ⟨_, .cons (by simp only [VR]) (.cons (by simp only [VR]) (.cons (by simp only [VR]) .nil)), rfl⟩
 ·exact X5e l 58 w hl
theorem Q76 (r : List UInt8) (c : UInt8) : -1 ≤ Bw r c r.length ∧ Bw r c r.length < r.length := by
 rcases Yj r c r.length with h | ⟨q, h, hq⟩ <;> omega
theorem Pk {l r ep v rl : List UInt8} (hh : Hq l = true) (hr : r = (if 0 ≤ Lib.indexByte l 58 then l.drop ((Lib.indexByte l 58).toNat + 1) else l)) (he : ep = (if 0 ≤ Lib.indexByte l 58 then l.take (Lib.indexByte l 58).toNat else [])) (hd : 0 ≤ Lib.indexByte l 58 → Fp (l.take (Lib.indexByte l 58).toNat) = true)
  (hv : v = (if 0 ≤ Bw r 45 r.length then r.take (Bw r 45 r.length).toNat else r)) (hrl : rl = (if 0 ≤ Bw r 45 r.length then r.drop ((Bw r 45 r.length).toNat + 1) else [])) (hn : 0 ≤ Bw r 45 r.length → ¬ rl = []) : Cc l = (if v = [] ∨ r.contains 58 = true then 30 else 0) ∧ Nb l = (ep, v, rl) := by
 constructor
 ·have ht : I8 l = Kc r := by
   unfold I8
   rw [hh, Bool.true_and]
   by_cases h : 0 ≤ Lib.indexByte l 58
   ·rw [if_pos h, hd h, Bool.true_and, hr, if_pos h]
   ·rw [if_neg h, hr, if_neg h]
  have ht2 : Kc r = !(decide (v = []) || r.contains 58) := by
   unfold Kc
   by_cases h : 0 ≤ Bw r 45 r.length
   ·have := hn h
    rw [if_pos h] at hv hrl ⊢
    rw [← hrl, ← hv, decide_eq_false this, Bool.not_or]; rfl
   ·rw [if_neg h] at hv ⊢
    rw [hv, Bool.not_or]
  unfold Cc
  rw [ht, ht2]
  by_cases h1 : v = [] <;> by_cases h2 : r.contains 58 = true <;> simp [h1, h2]
 ·unfold Nb
  simp only [← hr]
  rw [← he, ← hv, ← hrl]
theorem Q7z (c : UInt8) :
  FnV Tryz.prog 159 [(.int .u8 ((c.toNat : Int)))] (.bool (Fm c)) := by
 refine A4 [.tmp 2] Tryz.func159 rfl Tryz.ntmps159 rfl rfl (fun B F hF => ?_)
 refine Aa [] [0] ?_
 obtain ⟨b1, hb1⟩ : ∃ b, b = ((Bh c) || (B4 c)) := ⟨_, rfl⟩
 refine Ah (CS := [(4, (!(Bh c)) = true → (!(Bh c)) = true), (5, ((Bh c) = false → (!(Bh c)) = true)), (8, (!b1) = true → (!b1) = true), (9, ((!b1) = true → (!b1) = true)), (10, (b1 = false → (!b1) = true))]) [6, 10, 12] [2] [] (hk 1 Hw (Ih c) <| hkg 4 (!(Bh c)) Lu (fun cg => M2 c) <| hkg 8 (!b1) X0r (fun cg => X49 midL c) <| hk0) (vk 7 9 (a := .bool ((Bh c) || (B4 c))) (b := .bool b1) (Imp.of_eq (by rw [hb1])) <| v0) (by refine cc _ ?_ <| cc _ ?_ <| cc _ ?_ <| cc _ ?_ <| cc _ ?_ c0 <;> simp) ?_
 refine Ag ?_
 refine RK wR [(.bool (b1 || (decide (0 ≤ (Lib.indexByte midL c)))))] ?_
 subst hb1
 refine Same.of_eq ?_
 simp only [Ak]
 rw [Yv, Bool.or_assoc]; rfl
theorem Q9m {l : List UInt8} (c : (l = [] ∨ (60 : Int) < (l.length : Int)) ∨ ¬ (A8 Fm l : Int) = (l.length : Int)) : Cc l = 30 := by
 refine Zv ?_
 unfold Hq
 rcases c with (h | h) | h
 ·rw [h]; rfl
 ·rw [decide_eq_false (show ¬ l.length ≤ 60 by omega)]; simp
 ·rw [show l.all Fm = false from by cases hq : l.all Fm with | false => rfl | true => exact absurd ((P0 Fm l).2 hq) h]; rfl
theorem Q9n {l : List UInt8} (hh : Hq l = true) (h0 : 0 ≤ Lib.indexByte l 58) (c : (l.take (Lib.indexByte l 58).toNat = [] ∨ (9 : Int) < ((l.take (Lib.indexByte l 58).toNat).length : Int)) ∨ ¬ (A8 Bh (l.take (Lib.indexByte l 58).toNat) : Int) = ((l.take (Lib.indexByte l 58).toNat).length : Int)) : Cc l = 30 := by
 have hb : Fp (l.take (Lib.indexByte l 58).toNat) = false := by
  unfold Fp
  rcases c with (h | h) | h
  ·rw [h]; rfl
  ·rw [decide_eq_false (show ¬ (l.take (Lib.indexByte l 58).toNat).length ≤ 9 by omega)]; simp
  ·rw [show (l.take (Lib.indexByte l 58).toNat).all Hx = false from by cases hq : (l.take (Lib.indexByte l 58).toNat).all Hx with | false => rfl | true => exact absurd ((P0 Hx _).2 hq) h]; rfl
 unfold Cc I8
 rw [hh, Bool.true_and, if_pos h0, hb]; rfl
theorem Zs {l r : List UInt8} (hh : Hq l = true) (hr : r = (if 0 ≤ Lib.indexByte l 58 then l.drop ((Lib.indexByte l 58).toNat + 1) else l)) (hd : 0 ≤ Lib.indexByte l 58 → Fp (l.take (Lib.indexByte l 58).toNat) = true) (hy : 0 ≤ Bw r 45 r.length) (h : r.drop ((Bw r 45 r.length).toNat + 1) = []) : Cc l = 30 := by
 have ht : I8 l = Kc r := by
  unfold I8
  rw [hh, Bool.true_and]
  by_cases h : 0 ≤ Lib.indexByte l 58
  ·rw [if_pos h, hd h, Bool.true_and, hr, if_pos h]
  ·rw [if_neg h, hr, if_neg h]
 unfold Cc
 rw [ht]
 unfold Kc
 rw [if_pos hy, h]; rfl
theorem Pl (l : List UInt8) (hl : l.length ≤ 4611686018427387904) :
  FnV Tryz.prog 107 [(.str l)] (.tup [.agg [.str (Co l).1, .str (Co l).2.1, .str (Co l).2.2], .int .i64 (Cc l)]) := by
 refine A4 [.cell 2 150, .tmp 3] Tryz.func107 rfl Tryz.ntmps107 rfl rfl (fun B F hF => ?_)
 refine Aa [] [0, 2] ?_
 refine Aa [] [0, 2, 4] ?_
 refine Ad ?_
 obtain ⟨b1, hb1⟩ : ∃ b, b = (decide (l = [])) := ⟨_, rfl⟩
 obtain ⟨b2, hb2⟩ : ∃ b, b = (b1 || (decide (60 < (l.length : Int)))) := ⟨_, rfl⟩
 refine Ah (CS := [(4, ((!b1) = true → (!b1) = true)), (5, ((!b1) = true → (!b1) = true)), (6, (b1 = false → (!b1) = true)), (10, (!b2) = true → (!b2) = true ∧ (!b2) = true), (12, ((!b2) = true → (!b2) = true)), (13, ((!b2) = true → (!b2) = true ∧ (!b2) = true)), (14, (b2 = false → (!b2) = true))]) [14, 15, 16, 19, 20, 22, 23, 24] [0, 2, 25] [] (hkg 10 (!b2) (al := [(.str l), (.fn 159 [] [])]) G9 (fun cg => (Hz l (.fn 159 [] []) Fm (by first | omega | (split <;> simp <;> omega)) (fun c => FunV.of (by exact X0s) (Q7z c))).of_args (ImpL.cons Imp.refl (ImpL.cons (Imp.clo rfl) ImpL.nil))) <| hk0) (vk 3 13 (a := .bool (decide (l = []))) (b := .bool b1) (Imp.of_eq (by rw [hb1])) <| vk 8 18 (a := .bool (b1 || (decide (60 < (l.length : Int))))) (b := .bool b2) (Imp.of_eq (by rw [hb2])) <| v0) (by refine cc _ ?_ <| cc _ ?_ <| cc _ ?_ <| cc _ ?_ <| cc _ ?_ <| cc _ ?_ <| cc _ ?_ c0 <;> simp) ?_
 refine Bd (q := b2 || (!decide ((A8 Fm l : Int) = (l.length : Int)))) (by kernel_rfl) (fun c1 => ?_) (fun c1 => ?_)
 ·subst hb2 hb1
  try simp only [Ao] at c1
  refine Aa [] [2, 3] ?_
  refine Ag ?_
  refine RK wR [(.agg [(.str []), (.str []), (.str [])]), (.int .i64 30)] ?_
  refine Same.of_eq ?_
  simp only [Ak]
  have h0 : Cc l = 30 := Q9m c1
  have h1 : Co l = ([], [], []) := I7 h0.symm
  rw [h0, h1]
 ·subst hb2 hb1
  try simp only [Ao] at c1
  have hh : Hq l = true := by
   unfold Hq
   rw [show l.all Fm = true from (P0 Fm l).1 c1.2, decide_eq_true (show 1 ≤ l.length by have := List.length_pos_iff.2 c1.1.1; omega), decide_eq_true (by omega)]; rfl
  refine Ai ?_
  refine Aa [] [0, 2, 5] ?_
  refine Aa [] [0, 2, 5, 6] ?_
  refine Dt (fun y => ∃ (r : List UInt8) (ep : List UInt8), r = (if 0 ≤ Lib.indexByte l 58 then l.drop ((Lib.indexByte l 58).toNat + 1) else l) ∧ ep = (if 0 ≤ Lib.indexByte l 58 then l.take (Lib.indexByte l 58).toNat else []) ∧ (0 ≤ Lib.indexByte l 58 → Fp (l.take (Lib.indexByte l 58).toNat) = true) ∧ y = ⟨[(2, (.ptr 0 0)), (5, (.ptr 1 0)), (6, (.str r))], [(0, (.row [(.str []), (.str []), (.str [])] 150)), (1, (.row [(.str ep), (.str []), (.str [])] 150))], 2⟩) [2, 5, 6] 2 (by omega) ?_ ?_
  ·refine Ah [] [2, 5, 6, 7, 8, 9] [] (hk 1 X0q (X5f l (by omega)) <| hk0) v0 c0 ?_
   refine Aa [] [2, 5, 6, 7, 8, 34] ?_
   refine A6 (p := 0 ≤ Lib.indexByte l 58) (by kernel_rfl) (fun c2 => ?_) (fun c2 => ?_)
   ·refine Ad ?_
    obtain ⟨b3, hb3⟩ : ∃ b, b = (decide ((if 0 ≤ Lib.indexByte l 58 then l.take (Lib.indexByte l 58).toNat else l) = [])) := ⟨_, rfl⟩
    obtain ⟨b4, hb4⟩ : ∃ b, b = (b3 || (decide (9 < ((if 0 ≤ Lib.indexByte l 58 then l.take (Lib.indexByte l 58).toNat else l).length : Int)))) := ⟨_, rfl⟩
    refine Ah (CS := [(4, ((!b3) = true → (!b3) = true)), (5, ((!b3) = true → (!b3) = true)), (6, (b3 = false → (!b3) = true)), (9, (!b4) = true → (!b4) = true), (11, ((!b4) = true → (!b4) = true)), (12, ((!b4) = true → (!b4) = true ∧ (!b4) = true)), (13, (b4 = false → (!b4) = true))]) [38, 39, 40, 43, 45, 46, 47] [2, 5, 7, 8, 48] [] (hkg 9 (!b4) (al := [(.str ((if 0 ≤ Lib.indexByte l 58 then l.take (Lib.indexByte l 58).toNat else l))), (.fn 160 [] [])]) G9 (fun cg => (Hz (if 0 ≤ Lib.indexByte l 58 then l.take (Lib.indexByte l 58).toNat else l) (.fn 160 [] []) Bh (by first | omega | (split <;> simp <;> omega)) (fun c => FunV.of (by exact Hw) (Ih c))).of_args (ImpL.cons Imp.refl (ImpL.cons (Imp.clo rfl) ImpL.nil))) <| hk0) (vk 3 37 (a := .bool (decide ((if 0 ≤ Lib.indexByte l 58 then l.take (Lib.indexByte l 58).toNat else l) = []))) (b := .bool b3) (Imp.of_eq (by rw [hb3])) <| vk 7 41 (a := .bool (b3 || (decide (9 < ((if 0 ≤ Lib.indexByte l 58 then l.take (Lib.indexByte l 58).toNat else l).length : Int))))) (b := .bool b4) (Imp.of_eq (by rw [hb4])) <| v0) (by refine cc _ ?_ <| cc _ ?_ <| cc _ ?_ <| cc _ ?_ <| cc _ ?_ <| cc _ ?_ <| cc _ ?_ c0 <;> simp) ?_
    refine Bd (q := b4 || (!decide ((A8 Bh (if 0 ≤ Lib.indexByte l 58 then l.take (Lib.indexByte l 58).toNat else l) : Int) = ((if 0 ≤ Lib.indexByte l 58 then l.take (Lib.indexByte l 58).toNat else l).length : Int)))) (by kernel_rfl) (fun c3 => ?_) (fun c3 => ?_)
    ·subst hb4 hb3
     try simp only [Ao] at c3
     refine Aa [] [2, 3] ?_
     refine Ag ?_
     refine RK wR [(.agg [(.str []), (.str []), (.str [])]), (.int .i64 30)] ?_
     refine Same.of_eq ?_
     simp only [Ak]
     have h0 : Cc l = 30 := Q9n hh c2 (by rw [if_pos c2] at c3; exact c3)
     have h1 : Co l = ([], [], []) := I7 h0.symm
     rw [h0, h1]
    ·subst hb4 hb3
     try simp only [Ao] at c3
     have hdg : Fp (l.take (Lib.indexByte l 58).toNat) = true := by
      rw [if_pos c2] at c3
      unfold Fp
      rw [show (l.take (Lib.indexByte l 58).toNat).all Hx = true from (P0 Hx _).1 c3.2, decide_eq_true (show 1 ≤ _ by have := List.length_pos_iff.2 c3.1.1; omega), decide_eq_true (by omega)]; rfl
     refine Ai ?_
     refine Ap ?_
     refine Fv [] [2, 5, 6] ?_
     refine ⟨by kernel_rfl, (if 0 ≤ Lib.indexByte l 58 then l.drop ((Lib.indexByte l 58).toNat + 1) else []), (if 0 ≤ Lib.indexByte l 58 then l.take (Lib.indexByte l 58).toNat else l), ?_, ?_, ?_, (by kernel_rfl)⟩
     ·simp only [if_pos c2]
     ·simp only [if_pos c2]
     ·exact fun _ => hdg
   ·refine Ai ?_
    refine ⟨by kernel_rfl, l, [], ?_, ?_, ?_, (by kernel_rfl)⟩
    ·simp only [if_neg c2]
    ·simp only [if_neg c2]
    ·exact fun h => absurd h c2
  ·rintro y1 ⟨r, ep, hr, hep, hdg, rfl⟩
   have hrl : r.length ≤ l.length := by rw [hr]; split <;> simp
   have hyb := Q76 r 45
   have hi58 := Yu l 58
   refine Aa [] [2, 5, 6] ?_
   refine Dt (fun y => ∃ (v : List UInt8) (rl : List UInt8), v = (if 0 ≤ Bw r 45 r.length then r.take (Bw r 45 r.length).toNat else r) ∧ rl = (if 0 ≤ Bw r 45 r.length then r.drop ((Bw r 45 r.length).toNat + 1) else []) ∧ (0 ≤ Bw r 45 r.length → ¬ rl = []) ∧ y = ⟨[(2, (.ptr 0 0)), (5, (.ptr 1 0)), (6, (.str r))], [(0, (.row [(.str []), (.str []), (.str [])] 150)), (1, (.row [(.str ep), (.str v), (.str rl)] 150))], 2⟩) [2, 5, 6] 2 (by omega) ?_ ?_
   ·refine Ah [] [2, 5, 6, 10] [] (hk 1 X0p (X46 r (by omega)) <| hk0) v0 c0 ?_
    refine Aa [] [2, 5, 6, 10, 58] ?_
    refine A6 (p := 0 ≤ (Bw r 45 r.length)) (by kernel_rfl) (fun c4 => ?_) (fun c4 => ?_)
    ·refine Cq (CS := [(2, (0 ≤ (0 : Int) ∧ (0 : Int) ≤ Bw r 45 r.length ∧ Bw r 45 r.length ≤ (r.length : Int))), (5, (-9223372036854775808 ≤ (Bw r 45 r.length) + 1 ∧ (Bw r 45 r.length) + 1 ≤ 9223372036854775807)), (6, (0 ≤ (Bw r 45 r.length) + 1 ∧ (Bw r 45 r.length) + 1 ≤ (r.length : Int) ∧ (r.length : Int) ≤ (r.length : Int)))]) [] [2, 5, 6] [] hk0 v0 (by refine cc _ ?_ <| cc _ ?_ <| cc _ ?_ c0 <;> omega) ?_
     refine Aa [] [2, 5, 6, 70] ?_
     refine A6 (p := (r.take r.length).drop (((Bw r 45 r.length) + 1).toNat) = []) (by kernel_rfl) (fun c5 => ?_) (fun c5 => ?_)
     ·refine Aa [] [2, 3] ?_
      refine Ag ?_
      refine RK wR [(.agg [(.str []), (.str []), (.str [])]), (.int .i64 30)] ?_
      refine Same.of_eq ?_
      simp only [Ak]
      have h0 : Cc l = 30 := Zs hh hr hdg c4 (by have h := c5; rw [List.take_length] at h; rw [← h]; congr 1; omega)
      have h1 : Co l = ([], [], []) := I7 h0.symm
      rw [h0, h1]
     ·refine Ai ?_
      refine ⟨by kernel_rfl, ((r.take ((Bw r 45 r.length : Int).toNat)).drop 0), ((r.take r.length).drop (((Bw r 45 r.length) + 1).toNat)), ?_, ?_, ?_, (by kernel_rfl)⟩
      ·rw [if_pos c4]; simp
      ·rw [if_pos c4]; try rw [List.take_length]; congr 1; omega
      ·intro _; exact c5
    ·refine Ai ?_
     refine ⟨by kernel_rfl, r, [], ?_, ?_, ?_, (by kernel_rfl)⟩
     ·rw [if_neg c4]
     ·rw [if_neg c4]
     ·exact fun h => absurd h c4
   ·rintro y2 ⟨v, rl, hv, hrr, hnn, rfl⟩
    refine Ad ?_
    obtain ⟨b5, hb5⟩ : ∃ b, b = (decide (v = [])) := ⟨_, rfl⟩
    refine Ah (CS := [(5, (!b5) = true → (!b5) = true), (6, (b5 = false → (!b5) = true))]) [76] [2, 5, 78] [] (hkg 5 (!b5) X0o (fun cg => X5h r) <| hk0) (vk 4 75 (a := .bool (decide (v = []))) (b := .bool b5) (Imp.of_eq (by rw [hb5])) <| v0) (by refine cc _ ?_ <| cc _ ?_ c0 <;> simp) ?_
    refine Bd (q := b5 || (r.contains 58)) (by kernel_rfl) (fun c6 => ?_) (fun c6 => ?_)
    ·subst hb5
     try simp only [Ao] at c6
     refine Aa [] [2, 3] ?_
     refine Ag ?_
     refine RK wR [(.agg [(.str []), (.str []), (.str [])]), (.int .i64 30)] ?_
     refine Same.of_eq ?_
     simp only [Ak]
     have h0 : Cc l = 30 := by rw [(Pk hh hr hep hdg hv hrr hnn).1, if_pos (by simpa using c6)]
     have h1 : Co l = ([], [], []) := I7 h0.symm
     rw [h0, h1]
    ·subst hb5
     try simp only [Ao] at c6
     refine Ai ?_
     refine Aa [] [2, 3] ?_
     refine Ag ?_
     refine RK wR [(.agg [(.str ep), (.str v), (.str rl)]), (.int .i64 0)] ?_
     have hf := Pk hh hr hep hdg hv hrr hnn
     have h0 : Cc l = 0 := by rw [hf.1, if_neg (by simpa using c6)]
     exact Same.of_eq (by simp only [Ak]; rw [Zt h0.symm, hf.2, h0])
end Sv
end Go.Proofs.YtlmloohlmlahfaaGreatDoor
end
section
namespace Go.Proofs.YtlmloohlmlahfaaGreatDoor
open Go Go.RowKit
namespace Sv
attribute [local irreducible] SW SO Bn
set_option maxHeartbeats 1000000
set_option maxRecDepth 100000
theorem Q5f (c : UInt8) :
  FnV Tryz.prog 226 [(.int .u8 ((c.toNat : Int)))] (.bool (B4 c)) := by
 refine A4 [.tmp 2] Tryz.func226 rfl Tryz.ntmps226 rfl rfl (fun B F hF => ?_)
 refine Aa [] [0] ?_
 obtain ⟨b1, hb1⟩ : ∃ b, b = (decide (97 ≤ (c.toNat : Int))) := ⟨_, rfl⟩
 obtain ⟨b2, hb2⟩ : ∃ b, b = (b1 && (decide ((c.toNat : Int) ≤ 122))) := ⟨_, rfl⟩
 obtain ⟨b3, hb3⟩ : ∃ b, b = (b2 || ((decide (65 ≤ (c.toNat : Int))) && (decide ((c.toNat : Int) ≤ 90)))) := ⟨_, rfl⟩
 refine Ah (CS := [(4, (b1 = true → b1 = true)), (5, (b1 = true → b1 = true)), (8, ((!b2) = true → (!b2) = true)), (9, ((!b2) = true → (!b2) = true)), (11, (((!b2) && (decide (65 ≤ (c.toNat : Int)))) = true → ((!b2) && (decide (65 ≤ (c.toNat : Int)))) = true)), (12, ((!b2) = true → ((!b2) = true) ∧ ((decide (65 ≤ (c.toNat : Int))) = true → ((!b2) && (decide (65 ≤ (c.toNat : Int)))) = true))), (13, (b2 = false → (!b2) = true))]) [6, 7, 10, 11, 12, 13, 14, 15] [2] [] hk0 (vk 3 5 (a := .bool (decide (97 ≤ (c.toNat : Int)))) (b := .bool b1) (Imp.of_eq (by rw [hb1])) <| vk 7 9 (a := .bool (b1 && (decide ((c.toNat : Int) ≤ 122)))) (b := .bool b2) (Imp.of_eq (by rw [hb2])) <| vk 14 16 (a := .bool (b2 || ((decide (65 ≤ (c.toNat : Int))) && (decide ((c.toNat : Int) ≤ 90))))) (b := .bool b3) (Imp.of_eq (by rw [hb3])) <| v0) (by refine cc _ ?_ <| cc _ ?_ <| cc _ ?_ <| cc _ ?_ <| cc _ ?_ <| cc _ ?_ <| cc _ ?_ c0 <;> (intros; simp_all; done)) ?_
 refine Ag ?_
 refine RK wR [(.bool b3)] ?_
 subst hb3 hb2 hb1
 refine Same.of_eq ?_
 simp only [Ak]
 congr 1
 unfold B4
 rw [Bool.eq_iff_iff]
 simp only [Bool.and_eq_true, Bool.or_eq_true, decide_eq_true_eq]
 omega
theorem Vz (c : UInt8) :
  FnV Tryz.prog 227 [(.int .u8 ((c.toNat : Int)))] (.bool (Bh c)) := by
 refine A4 [.tmp 2] Tryz.func227 rfl Tryz.ntmps227 rfl rfl (fun B F hF => ?_)
 refine Aa [] [0] ?_
 obtain ⟨b1, hb1⟩ : ∃ b, b = (decide (48 ≤ (c.toNat : Int))) := ⟨_, rfl⟩
 refine Ah (CS := [(4, (b1 = true → b1 = true)), (5, (b1 = true → b1 = true))]) [6, 7] [2] [] hk0 (vk 3 5 (a := .bool (decide (48 ≤ (c.toNat : Int)))) (b := .bool b1) (Imp.of_eq (by rw [hb1])) <| v0) (by refine cc _ ?_ <| cc _ ?_ c0 <;> simp) ?_
 refine Ag ?_
 refine RK wR [(.bool (b1 && (decide ((c.toNat : Int) ≤ 57))))] ?_
 subst hb1
 refine Same.of_eq ?_
 simp only [Ak]
 congr 1
 unfold Bh
 rw [Bool.eq_iff_iff]
 simp only [Bool.and_eq_true, Bool.or_eq_true, decide_eq_true_eq]
 omega
theorem inV (c : UInt8) (l : List UInt8) (hl : l.length ≤ 4611686018427387904) :
  FnV Tryz.prog 193 [(.int .u8 ((c.toNat : Int))), (.str l)] (.bool (l.contains c)) := by
 refine A4 [.tmp 4] Tryz.func193 rfl Tryz.ntmps193 rfl rfl (fun B F hF => ?_)
 refine Aa [] [0, 1] ?_
 refine Ad ?_
 refine Aa [] [0, 1, 5] ?_
 refine A1 ?_
 refine Bv (fun g y => ∃ (k : Nat), k ≤ l.length ∧ l.contains c = (l.drop k).contains c ∧ y = ⟨[(0, (.int .u8 ((c.toNat : Int)))), (1, (.str l)), (5, (.int .i64 ((k : Int))))], [], 0⟩ ∧ g = l.length - k) [0, 1, 5] 0 _ (by omega) ⟨0, (by omega), (by rfl), (by kernel_rfl), rfl⟩ ?_
 rintro g1 y1 ⟨k, f1_1, f1_2, rfl, rfl⟩
 refine Ad ?_
 refine Aa [] [0, 1, 5, 9] ?_
 refine A6 (p := (k : Int) < (l.length : Int)) (by kernel_rfl) (fun c1 => ?_) (fun c1 => ?_)
 ·refine Ai ?_
  refine Ad ?_
  refine A1 ?_
  refine Ah [] [0, 1, 5, 16] [] hk0 v0 (cc 2 (p := (0 ≤ (k : Int) ∧ k < l.length)) (by omega) <| c0) ?_
  refine A6 (p := ((Aq l k).toNat : Int) = (c.toNat : Int)) (by kernel_rfl) (fun c2 => ?_) (fun c2 => ?_)
  ·refine Aa [] [4] ?_
   refine Ag ?_
   refine RK wR [(.bool true)] ?_
   exact Same.of_eq (by rw [f1_2, Ja (by omega), show Aq l k = c from UInt8.toNat_inj.1 (by omega)]; simp [Ak])
  ·refine Ai ?_
   refine Ap ?_
   refine Av 0 [] [0, 1, 5] [] hk0 v0 (cc 1 (p := (-9223372036854775808 ≤ (k : Int) + 1 ∧ (k : Int) + 1 ≤ 9223372036854775807)) (by omega) <| c0) ?_
   refine ⟨by kernel_rfl, _, ?_, k + 1, ?_, ?_, (by kernel_rfl), rfl⟩
   ·omega
   ·omega
   ·rw [f1_2, Ja (by omega), List.contains_cons]; have : ¬ c = Aq l k := fun e => c2 (by rw [e]); simp [this]
 ·refine Br ?_
  refine Aa [] [4] ?_
  refine Ag ?_
  refine RK wR [(.bool false)] ?_
  exact Same.of_eq (by rw [f1_2, List.drop_of_length_le (by omega)]; rfl)
theorem Q5e (l : List UInt8) (hl : l.length ≤ 4611686018427387904) :
  FnV Tryz.prog 191 [(.str l)] (.bool (l.all Fm && (decide (1 ≤ l.length) && decide (l.length ≤ 60)))) := by
 refine A4 [.tmp 2] Tryz.func191 rfl Tryz.ntmps191 rfl rfl (fun B F hF => ?_)
 refine Aa [] [0] ?_
 refine Ad ?_
 refine Aa [] [0, 3] ?_
 refine A1 ?_
 refine Bv (fun g y => ∃ (k : Nat), k ≤ l.length ∧ (l.take k).all Fm = true ∧ y = ⟨[(0, (.str l)), (3, (.int .i64 ((k : Int))))], [], 0⟩ ∧ g = l.length - k) [0, 3] 0 _ (by omega) ⟨0, (by omega), (by rfl), (by kernel_rfl), rfl⟩ ?_
 rintro g1 y1 ⟨k, f1_1, f1_2, rfl, rfl⟩
 refine Ad ?_
 refine Aa [] [0, 3, 9] ?_
 refine A6 (p := (k : Int) < (l.length : Int)) (by kernel_rfl) (fun c1 => ?_) (fun c1 => ?_)
 ·refine Ai ?_
  refine Ad ?_
  refine A1 ?_
  refine Ah [] [0, 3, 4] [] (hk 3 X0a (Q5f (Aq l k)) <| hk0) v0 (cc 2 (p := (0 ≤ (k : Int) ∧ k < l.length)) (by omega) <| c0) ?_
  refine Ah [] [0, 3, 4, 5] [] (hk 3 Q0d (Vz (Aq l k)) <| hk0) v0 (cc 2 (p := (0 ≤ (k : Int) ∧ k < l.length)) (by omega) <| c0) ?_
  obtain ⟨b1, hb1⟩ : ∃ b, b = (!(B4 (Aq l k))) := ⟨_, rfl⟩
  obtain ⟨b2, hb2⟩ : ∃ b, b = (b1 && (!(Bh (Aq l k)))) := ⟨_, rfl⟩
  refine Ah (CS := [(4, (b1 = true → b1 = true)), (5, (b1 = true → b1 = true)), (9, (b2 = true → (b2 = true ∧ b2 = true) ∧ (0 ≤ (k : Int) ∧ k < l.length))), (10, b2 = true → b2 = true), (11, (b2 = true → b2 = true)), (12, (b2 = true → b2 = true))]) [23, 24, 27, 28, 29, 31] [0, 3, 32] [] (hkg 10 b2 Q0h (fun cg => inV (Aq l k) midL (by decide)) <| hk0) (vk 3 22 (a := .bool (!(B4 (Aq l k)))) (b := .bool b1) (Imp.of_eq (by rw [hb1])) <| vk 7 26 (a := .bool (b1 && (!(Bh (Aq l k))))) (b := .bool b2) (Imp.of_eq (by rw [hb2])) <| v0) (by refine cc _ ?_ <| cc _ ?_ <| cc _ ?_ <| cc _ ?_ <| cc _ ?_ <| cc _ ?_ c0 <;> (intros; simp_all; done)) ?_
  refine Bd (q := b2 && (!(midL.contains (Aq l k)))) (by kernel_rfl) (fun c2 => ?_) (fun c2 => ?_)
  ·subst hb2 hb1
   try simp only [Ao] at c2
   refine Aa [] [2] ?_
   refine Ag ?_
   refine RK wR [(.bool false)] ?_
   exact Same.of_eq (by simp only [Ak]; rw [Q2h (p := Fm) (k := k) (by omega) (by show (Bh _ || (B4 _ || _)) = false; simp_all)]; rfl)
  ·subst hb2 hb1
   try simp only [Ao] at c2
   refine Ai ?_
   refine Ap ?_
   refine Av 0 [] [0, 3] [] hk0 v0 (cc 1 (p := (-9223372036854775808 ≤ (k : Int) + 1 ∧ (k : Int) + 1 ≤ 9223372036854775807)) (by omega) <| c0) ?_
   refine ⟨by kernel_rfl, _, ?_, k + 1, ?_, ?_, (by kernel_rfl), rfl⟩
   ·omega
   ·omega
   ·refine Q2f (by omega) f1_2 ?_
    show (Bh _ || (B4 _ || _)) = true; simp only [Bool.or_eq_true]; by_cases a1 : Bh (Aq l k) = true <;> by_cases a2 : B4 (Aq l k) = true <;> simp_all
 ·refine Br ?_
  obtain ⟨b3, hb3⟩ : ∃ b, b = (decide (1 ≤ (l.length : Int))) := ⟨_, rfl⟩
  refine Ah (CS := [(5, (b3 = true → b3 = true)), (6, (b3 = true → b3 = true)), (7, (b3 = true → b3 = true))]) [37, 38, 39] [2] [] hk0 (vk 4 36 (a := .bool (decide (1 ≤ (l.length : Int)))) (b := .bool b3) (Imp.of_eq (by rw [hb3])) <| v0) (by refine cc _ ?_ <| cc _ ?_ <| cc _ ?_ c0 <;> simp) ?_
  refine Ag ?_
  refine RK wR [(.bool (b3 && (decide ((l.length : Int) ≤ 60))))] ?_
  subst hb3
  have hall : l.all Fm = true := by rw [List.take_of_length_le (by omega)] at f1_2; exact f1_2
  exact Same.of_eq (by simp only [Ak]; rw [hall, show decide ((1 : Int) ≤ (l.length : Int)) = decide (1 ≤ l.length) from decide_eq_decide.2 (by omega), show decide ((l.length : Int) ≤ 60) = decide (l.length ≤ 60) from decide_eq_decide.2 (by omega)]; rfl)
theorem Q5t (l : List UInt8) (hl : l.length ≤ 4611686018427387904) :
  FnV Tryz.prog 192 [(.str l)] (.bool (Fp l)) := by
 refine A4 [.tmp 2] Tryz.func192 rfl Tryz.ntmps192 rfl rfl (fun B F hF => ?_)
 refine Aa [] [0] ?_
 refine Ad ?_
 refine Aa [] [0, 3] ?_
 refine A1 ?_
 refine Bv (fun g y => ∃ (k : Nat), k ≤ l.length ∧ (l.take k).all Hx = true ∧ y = ⟨[(0, (.str l)), (3, (.int .i64 ((k : Int))))], [], 0⟩ ∧ g = l.length - k) [0, 3] 0 _ (by omega) ⟨0, (by omega), (by rfl), (by kernel_rfl), rfl⟩ ?_
 rintro g1 y1 ⟨k, f1_1, f1_2, rfl, rfl⟩
 refine Ad ?_
 refine Aa [] [0, 3, 8] ?_
 refine A6 (p := (k : Int) < (l.length : Int)) (by kernel_rfl) (fun c1 => ?_) (fun c1 => ?_)
 ·refine Ai ?_
  refine Ad ?_
  refine A1 ?_
  refine Ah [] [0, 3, 4] [] (hk 3 Q0d (Vz (Aq l k)) <| hk0) v0 (cc 2 (p := (0 ≤ (k : Int) ∧ k < l.length)) (by omega) <| c0) ?_
  refine Aa [] [0, 3, 16] ?_
  refine Bd (q := !(Bh (Aq l k))) (by kernel_rfl) (fun c2 => ?_) (fun c2 => ?_)
  ·try simp only [Ao] at c2
   refine Aa [] [2] ?_
   refine Ag ?_
   refine RK wR [(.bool false)] ?_
   exact Same.of_eq (by simp only [Ak]; unfold Fp; rw [Q2h (p := Hx) (k := k) (by omega) (by show Bh _ = false; simp_all)]; rfl)
  ·try simp only [Ao] at c2
   refine Ai ?_
   refine Ap ?_
   refine Av 0 [] [0, 3] [] hk0 v0 (cc 1 (p := (-9223372036854775808 ≤ (k : Int) + 1 ∧ (k : Int) + 1 ≤ 9223372036854775807)) (by omega) <| c0) ?_
   refine ⟨by kernel_rfl, _, ?_, k + 1, ?_, ?_, (by kernel_rfl), rfl⟩
   ·omega
   ·omega
   ·refine Q2f (by omega) f1_2 ?_
    show Bh _ = true; simp_all
 ·refine Br ?_
  obtain ⟨b1, hb1⟩ : ∃ b, b = (decide (1 ≤ (l.length : Int))) := ⟨_, rfl⟩
  refine Ah (CS := [(5, (b1 = true → b1 = true)), (6, (b1 = true → b1 = true)), (7, (b1 = true → b1 = true))]) [21, 22, 23] [2] [] hk0 (vk 4 20 (a := .bool (decide (1 ≤ (l.length : Int)))) (b := .bool b1) (Imp.of_eq (by rw [hb1])) <| v0) (by refine cc _ ?_ <| cc _ ?_ <| cc _ ?_ c0 <;> simp) ?_
  refine Ag ?_
  refine RK wR [(.bool (b1 && (decide ((l.length : Int) ≤ 9))))] ?_
  subst hb1
  have hall : l.all Hx = true := by rw [List.take_of_length_le (by omega)] at f1_2; exact f1_2
  exact Same.of_eq (by simp only [Ak]; unfold Fp; rw [hall, show decide ((1 : Int) ≤ (l.length : Int)) = decide (1 ≤ l.length) from decide_eq_decide.2 (by omega), show decide ((l.length : Int) ≤ 9) = decide (l.length ≤ 9) from decide_eq_decide.2 (by omega)]; rfl)
theorem Vx (l : List UInt8) (hl : l.length ≤ 4611686018427387904) :
  FnV Tryz.prog 153 [(.str l)] (.tup [.agg [.str (Co l).1, .str (Co l).2.1, .str (Co l).2.2], .int .i64 (Cc l)]) := by
 refine A4 [.cell 2 150, .tmp 3] Tryz.func153 rfl Tryz.ntmps153 rfl rfl (fun B F hF => ?_)
 refine Aa [] [0, 2] ?_
 refine Ah [] [0, 2, 4] [] (hk 1 X0i (Q5e l hl) <| hk0) v0 c0 ?_
 refine Ad ?_
 refine Aa [] [0, 2, 12] ?_
 refine Bd (q := !(Hq l)) (by kernel_rfl) (fun c1 => ?_) (fun c1 => ?_)
 ·try simp only [Ao] at c1
  refine Aa [] [2, 3] ?_
  refine Ag ?_
  refine RK wR [(.agg [(.str []), (.str []), (.str [])]), (.int .i64 30)] ?_
  refine Same.of_eq ?_
  simp only [Ak]
  have h0 : Cc l = 30 := Zv (by simpa using c1)
  have h1 : Co l = ([], [], []) := I7 h0.symm
  rw [h0, h1]
 ·try simp only [Ao] at c1
  have hh : Hq l = true := by simpa using c1
  refine Ai ?_
  refine Aa [] [0, 2, 5] ?_
  refine Dt (fun y => ∃ (r : List UInt8) (ep : List UInt8), r = (if 0 ≤ Lib.indexByte l 58 then l.drop ((Lib.indexByte l 58).toNat + 1) else l) ∧ ep = (if 0 ≤ Lib.indexByte l 58 then l.take (Lib.indexByte l 58).toNat else []) ∧ (0 ≤ Lib.indexByte l 58 → Fp (l.take (Lib.indexByte l 58).toNat) = true) ∧ y = ⟨[(0, (.str r)), (2, (.ptr 0 0)), (5, (.ptr 1 0))], [(0, (.row [(.str []), (.str []), (.str [])] 150)), (1, (.row [(.str ep), (.str []), (.str [])] 150))], 2⟩) [0, 2, 5] 2 (by omega) ?_ ?_
  ·refine Aa [] [0, 2, 5, 6] ?_
   refine A1 ?_
   refine Bv (fun g y => ∃ (i : Nat), i ≤ l.length ∧ H2 l 58 i ∧ y = ⟨[(0, (.str l)), (2, (.ptr 0 0)), (5, (.ptr 1 0)), (6, (.int .i64 ((i : Int))))], [(0, (.row [(.str []), (.str []), (.str [])] 150)), (1, (.row [(.str []), (.str []), (.str [])] 150))], 2⟩ ∧ g = l.length - i) [0, 2, 5, 6] 2 _ (by omega) ⟨0, (by omega), (by exact Q8p l 58), (by kernel_rfl), rfl⟩ ?_
   rintro g1 y1 ⟨i, f1_1, f1_2, rfl, rfl⟩
   refine Ad ?_
   refine Aa [] [0, 2, 5, 6, 17] ?_
   refine A6 (p := (i : Int) < (l.length : Int)) (by kernel_rfl) (fun c2 => ?_) (fun c2 => ?_)
   ·refine Ai ?_
    refine Ad ?_
    refine A1 ?_
    refine Ad ?_
    refine Ah [] [0, 2, 5, 6, 23] [] hk0 v0 (cc 2 (p := (0 ≤ (i : Int) ∧ i < l.length)) (by omega) <| c0) ?_
    refine Da (p := ((Aq l i).toNat : Int) = 58) (by kernel_rfl) (fun c3 => ?_) (fun c3 => ?_)
    ·refine Br ?_
     refine Ap ?_
     refine Av 0 [] [0, 2, 5, 6] [] hk0 v0 (cc 1 (p := (-9223372036854775808 ≤ (i : Int) + 1 ∧ (i : Int) + 1 ≤ 9223372036854775807)) (by omega) <| c0) ?_
     refine ⟨by kernel_rfl, _, ?_, i + 1, ?_, ?_, (by kernel_rfl), rfl⟩
     ·omega
     ·omega
     ·exact Q8o f1_2 (by omega) (fun e => by rw [e] at c3; simp at c3)
    ·refine Ai ?_
     refine Ah [] [0, 2, 5, 6, 7] [] (hk 3 X0h (Q5t ((l.take i).drop 0) (by simp; omega)) <| hk0) v0 (cc 2 (p := (0 ≤ (0 : Int) ∧ (0 : Int) ≤ (i : Int) ∧ (i : Int) ≤ (l.length : Int))) (by omega) <| c0) ?_
     refine Ad ?_
     refine Aa [] [0, 2, 5, 6, 29] ?_
     refine Bd (q := !(Fp ((l.take i).drop 0))) (by kernel_rfl) (fun c4 => ?_) (fun c4 => ?_)
     ·try simp only [Ao] at c4
      refine Aa [] [2, 3] ?_
      refine Ag ?_
      refine RK wR [(.agg [(.str []), (.str []), (.str [])]), (.int .i64 30)] ?_
      refine Same.of_eq ?_
      simp only [Ak]
      have h0 : Cc l = 30 := Q9o (Yx f1_2 (by omega) (UInt8.toNat_inj.1 (by show _ = 58; omega))) (by simpa using c4)
      have h1 : Co l = ([], [], []) := I7 h0.symm
      rw [h0, h1]
     ·try simp only [Ao] at c4
      refine Ai ?_
      refine Ah [] [0, 2, 5, 6] [] hk0 v0 (cc 2 (p := (0 ≤ (0 : Int) ∧ (0 : Int) ≤ (i : Int) ∧ (i : Int) ≤ (l.length : Int))) (by omega) <| c0) ?_
      refine Ah (CS := [(2, (-9223372036854775808 ≤ (i : Int) + 1 ∧ (i : Int) + 1 ≤ 9223372036854775807)), (3, (0 ≤ (i : Int) + 1 ∧ (i : Int) + 1 ≤ (l.length : Int) ∧ (l.length : Int) ≤ (l.length : Int)))]) [] [0, 2, 5] [] hk0 v0 (by refine cc _ ?_ <| cc _ ?_ c0 <;> omega) ?_
      refine Br ?_
      refine ⟨by kernel_rfl, ((l.take l.length).drop (i + 1)), ((l.take i).drop 0), ?_, ?_, ?_, (by kernel_rfl)⟩
      all_goals have hz : Lib.indexByte l 58 = (i : Int) := Yx f1_2 (by omega) (UInt8.toNat_inj.1 (by show _ = 58; omega))
      all_goals rw [hz]
      ·rw [if_pos (by omega), List.take_length, Int.toNat_natCast]; try (congr 1; omega)
      ·rw [if_pos (by omega), Int.toNat_natCast]; simp
      ·intro _; rw [Int.toNat_natCast]; simpa using c4
   ·refine Br ?_
    refine ⟨by kernel_rfl, l, [], ?_, ?_, ?_, (by kernel_rfl)⟩
    all_goals have hz : Lib.indexByte l 58 = -1 := Q8q f1_2 (by omega)
    all_goals rw [hz]
    ·rw [if_neg (by omega)]
    ·rw [if_neg (by omega)]
    ·intro h; exact absurd h (by omega)
  ·rintro y1 ⟨r, ep, hr, hep, hdg, rfl⟩
   have hrl : r.length ≤ l.length := by rw [hr]; split <;> simp
   refine Aa [] [0, 2, 5] ?_
   refine Dt (fun y => ∃ (v : List UInt8) (rl : List UInt8), v = (if 0 ≤ Bw r 45 r.length then r.take (Bw r 45 r.length).toNat else r) ∧ rl = (if 0 ≤ Bw r 45 r.length then r.drop ((Bw r 45 r.length).toNat + 1) else []) ∧ (0 ≤ Bw r 45 r.length → ¬ rl = []) ∧ y = ⟨[(0, (.str r)), (2, (.ptr 0 0)), (5, (.ptr 1 0))], [(0, (.row [(.str []), (.str []), (.str [])] 150)), (1, (.row [(.str ep), (.str v), (.str rl)] 150))], 2⟩) [0, 2, 5] 2 (by omega) ?_ ?_
   ·refine Ah [] [0, 2, 5, 8] [] hk0 v0 (cc 2 (p := (-9223372036854775808 ≤ (r.length : Int) - 1 ∧ (r.length : Int) - 1 ≤ 9223372036854775807)) (by omega) <| c0) ?_
    refine A1 ?_
    refine Bv (fun g y => ∃ (k : Nat), k ≤ r.length ∧ Bw r 45 r.length = Bw r 45 k ∧ y = ⟨[(0, (.str r)), (2, (.ptr 0 0)), (5, (.ptr 1 0)), (8, (.int .i64 ((k : Int) - 1)))], [(0, (.row [(.str []), (.str []), (.str [])] 150)), (1, (.row [(.str ep), (.str r), (.str [])] 150))], 2⟩ ∧ g = k + 1) [0, 2, 5, 8] 2 _ (by omega) ⟨r.length, (by omega), (by rfl), (by kernel_rfl), rfl⟩ ?_
    rintro g2 y2 ⟨k, f2_1, f2_2, rfl, rfl⟩
    refine Ad ?_
    refine Aa [] [0, 2, 5, 8, 45] ?_
    refine A6 (p := 0 ≤ ((k : Int) - 1)) (by kernel_rfl) (fun c5 => ?_) (fun c5 => ?_)
    ·refine Ai ?_
     refine Ad ?_
     refine A1 ?_
     refine Ah [] [0, 2, 5, 8, 51] [] hk0 v0 (cc 2 (p := (0 ≤ (k : Int) - 1 ∧ ((k : Int) - 1).toNat < r.length)) (by omega) <| c0) ?_
     refine A6 (p := ((Aq r (((k : Int) - 1).toNat)).toNat : Int) = 45) (by kernel_rfl) (fun c6 => ?_) (fun c6 => ?_)
     ·have hk1 : ((k : Int) - 1).toNat = k - 1 := by omega
      rw [hk1] at c6
      refine Ah [] [0, 2, 5, 8] [] hk0 v0 (cc 2 (p := (0 ≤ (0 : Int) ∧ (0 : Int) ≤ (k : Int) - 1 ∧ (k : Int) - 1 ≤ (r.length : Int))) (by omega) <| c0) ?_
      refine Ah (CS := [(2, (-9223372036854775808 ≤ ((k : Int) - 1) + 1 ∧ ((k : Int) - 1) + 1 ≤ 9223372036854775807)), (3, (0 ≤ ((k : Int) - 1) + 1 ∧ ((k : Int) - 1) + 1 ≤ (r.length : Int) ∧ (r.length : Int) ≤ (r.length : Int)))]) [] [0, 2, 5] [] hk0 v0 (by refine cc _ ?_ <| cc _ ?_ c0 <;> omega) ?_
      refine Ad ?_
      refine Aa [] [0, 2, 5, 63] ?_
      refine A6 (p := (r.take r.length).drop ((((k : Int) - 1) + 1).toNat) = []) (by kernel_rfl) (fun c7 => ?_) (fun c7 => ?_)
      ·refine Aa [] [2, 3] ?_
       refine Ag ?_
       refine RK wR [(.agg [(.str []), (.str []), (.str [])]), (.int .i64 30)] ?_
       refine Same.of_eq ?_
       simp only [Ak]
       have h0 : Cc l = 30 := by
        have hy : Bw r 45 r.length = ((k - 1 : Nat) : Int) := by rw [f2_2, M3 (by omega), if_pos (UInt8.toNat_inj.1 (by show _ = 45; omega))]
        exact Zs hh hr hdg (by omega) (by rw [hy, Int.toNat_natCast, ← c7]; simp; congr 1; omega)
       have h1 : Co l = ([], [], []) := I7 h0.symm
       rw [h0, h1]
      ·refine Ai ?_
       refine Br ?_
       refine ⟨by kernel_rfl, ((r.take (((k : Int) - 1).toNat)).drop 0), ((r.take r.length).drop ((((k : Int) - 1) + 1).toNat)), ?_, ?_, ?_, (by kernel_rfl)⟩
       all_goals have hy : Bw r 45 r.length = ((k - 1 : Nat) : Int) := by rw [f2_2, M3 (by omega), if_pos (UInt8.toNat_inj.1 (by show _ = 45; omega))]
       all_goals rw [hy]
       ·rw [if_pos (by omega), Int.toNat_natCast]; simp; try (congr 1; omega)
       ·rw [if_pos (by omega), Int.toNat_natCast]; simp; try (congr 1; omega)
       ·exact fun _ => c7
     ·have hk1 : ((k : Int) - 1).toNat = k - 1 := by omega
      rw [hk1] at c6
      refine Ai ?_
      refine Ap ?_
      refine Av 0 [] [0, 2, 5, 8] [] hk0 v0 (cc 1 (p := (-9223372036854775808 ≤ ((k : Int) - 1) - 1 ∧ ((k : Int) - 1) - 1 ≤ 9223372036854775807)) (by omega) <| c0) ?_
      refine ⟨by kernel_rfl, _, ?_, (k - 1), ?_, ?_, (Eq.trans (b := (⟨[(0, (.str r)), (2, (.ptr 0 0)), (5, (.ptr 1 0)), (8, (.int .i64 (((k : Int) - 1) - 1)))], [(0, (.row [(.str []), (.str []), (.str [])] 150)), (1, (.row [(.str ep), (.str r), (.str [])] 150))], 2⟩ : St)) (by kernel_rfl) (by rw [show (k : Int) - 1 - 1 = ((k - 1 : Nat) : Int) - 1 from by omega])), rfl⟩
      ·omega
      ·omega
      ·rw [f2_2, M3 (by omega), if_neg (fun e => c6 (by rw [e]; rfl))]
    ·refine Br ?_
     refine ⟨by kernel_rfl, r, [], ?_, ?_, ?_, (by kernel_rfl)⟩
     all_goals have hy : Bw r 45 r.length = -1 := by rw [f2_2, show k = 0 by omega]; rfl
     all_goals rw [hy]
     ·rw [if_neg (by omega)]
     ·rw [if_neg (by omega)]
     ·intro h; exact absurd h (by omega)
   ·rintro y2 ⟨v, rl, hv, hrr, hnn, rfl⟩
    refine Ad ?_
    obtain ⟨b1, hb1⟩ : ∃ b, b = (decide (v = [])) := ⟨_, rfl⟩
    refine Ah (CS := [(5, (!b1) = true → (!b1) = true), (6, (b1 = false → (!b1) = true))]) [69] [2, 5, 71] [] (hkg 5 (!b1) Q0h (fun cg => inV 58 r (by omega)) <| hk0) (vk 4 68 (a := .bool (decide (v = []))) (b := .bool b1) (Imp.of_eq (by rw [hb1])) <| v0) (by refine cc _ ?_ <| cc _ ?_ c0 <;> simp) ?_
    refine Bd (q := b1 || (r.contains 58)) (by kernel_rfl) (fun c8 => ?_) (fun c8 => ?_)
    ·subst hb1
     try simp only [Ao] at c8
     refine Aa [] [2, 3] ?_
     refine Ag ?_
     refine RK wR [(.agg [(.str []), (.str []), (.str [])]), (.int .i64 30)] ?_
     refine Same.of_eq ?_
     simp only [Ak]
     have h0 : Cc l = 30 := by rw [(Pk hh hr hep hdg hv hrr hnn).1, if_pos (by simpa using c8)]
     have h1 : Co l = ([], [], []) := I7 h0.symm
     rw [h0, h1]
    ·subst hb1
     try simp only [Ao] at c8
     refine Ai ?_
     refine Aa [] [2, 3] ?_
     refine Ag ?_
     refine RK wR [(.agg [(.str ep), (.str v), (.str rl)]), (.int .i64 0)] ?_
     have hf := Pk hh hr hep hdg hv hrr hnn
     have h0 : Cc l = 0 := by rw [hf.1, if_neg (by simpa using c8)]
     exact Same.of_eq (by simp only [Ak]; rw [Zt h0.symm, hf.2, h0])
end Sv
end Go.Proofs.YtlmloohlmlahfaaGreatDoor
end
section
namespace Go.Proofs.YtlmloohlmlahfaaGreatDoor
open Go Go.RowKit
set_option linter.unusedSimpArgs false
set_option linter.unusedVariables false
structure PkgT where
  name : List UInt8
  evr : List UInt8
  arch : List UInt8
  vendor : List UInt8
  provides : List DepT
  requires : List DepT
  pre : List DepT
  conflicts : List DepT
  obsoletes : List DepT
  recommends : List DepT
  supplements : List DepT
  files : List (List UInt8)
  deriving Inhabited
structure RepoT where
  name : List UInt8
  prio : Int
  inst : Bool
  pkgs : List PkgT
  deriving Inhabited
def PkgT.depSize (p : PkgT) : Nat := argsSize p.provides + argsSize p.requires + argsSize p.pre + argsSize p.conflicts + argsSize p.obsoletes + argsSize p.recommends + argsSize p.supplements
def Gt : List (List UInt8) → Nat
  | [] => 0
  | x :: r => 1 + x.length + Gt r
theorem Kb : ∀ l : List (List UInt8), l.length ≤ Gt l
  | [] => Nat.zero_le _
  | x :: r => by have := Kb r; simp only [Gt, List.length_cons]; omega
theorem Ss : ∀ {l : List (List UInt8)} {i : Nat}, i < l.length → (nth l i).length ≤ Gt l
  | [], _, h => by simp at h
  | x :: r, 0, _ => by simp only [Gt]; show x.length ≤ _; omega
  | x :: r, i + 1, h => by
    have := Ss (l := r) (i := i) (by simpa using h)
    simp only [Gt]; show (nth r i).length ≤ _; omega
def PkgT.size (p : PkgT) : Nat := 1 + p.name.length + p.evr.length + p.arch.length + p.vendor.length + p.depSize + Gt p.files
theorem PkgT.sizes (p : PkgT) : p.name.length ≤ p.size ∧ p.evr.length ≤ p.size ∧ p.arch.length ≤ p.size ∧ p.vendor.length ≤ p.size ∧ p.depSize ≤ p.size ∧ Gt p.files ≤ p.size := by
  unfold PkgT.size; omega
namespace Sv
noncomputable def As (p : PkgT) : AV := .agg [.str p.name, .str p.evr, .str p.arch, .str p.vendor, Dj p.provides, Dj p.requires, Dj p.pre, Dj p.conflicts, Dj p.obsoletes, Dj p.recommends, Dj p.supplements, C3 p.files]
noncomputable def Bf (r : RepoT) : AV := .agg [.str r.name, .int .i64 r.prio, .bool r.inst, Ac 12 As r.pkgs]
theorem Q4q {α β : Type} [Inhabited α] (f : α → β) (l : List α) (i : Nat) : (l.map f).set i (f (nth l i)) = l.map f := by
  refine List.ext_getElem? fun j => ?_
  rw [List.getElem?_set]
  by_cases h : i = j
  · subst h
    by_cases hi : i < l.length
    · simp [hi, nth]
    · rw [if_pos rfl, if_neg (by simpa using hi), List.getElem?_eq_none (by simpa using hi)]
  · rw [if_neg h]
theorem Ll {α β : Type} [Inhabited α] (f : α → β) {l : List α} {i : Nat} (h : i < l.length) : (l.map f)[i]? = some (f (nth l i)) := by simp [nth, h]
theorem Ep (d : DepT) : argsSize d.args + 1 + d.name.length + d.evr.length = d.size := by cases d; simp only [DepT.size, DepT.args, DepT.name, DepT.evr]
theorem Dr : ∀ l : List DepT, l.length ≤ argsSize l
  | [] => Nat.zero_le _
  | d :: r => by
    have := Dr r
    have : 1 ≤ d.size := by cases d; simp only [DepT.size]; omega
    simp only [argsSize, List.length_cons]; omega
theorem Q12 {l : List DepT} {i : Nat} (h : i < l.length) : argsSize (nth l i).args < argsSize l := by
  have h1 := Kh (l := l) (i := i) h
  have h2 := Ep (nth l i)
  omega
theorem K3 {α β : Type} [Inhabited α] {l : List α} (f : α → β) : (List.range l.length).map (fun k => f (nth l k)) = l.map f := by
  refine List.ext_getElem (by simp) fun j h1 h2 => ?_
  simp only [List.length_map, List.length_range] at h1
  simp [nth, h1]
theorem Q6b {α : Type} [Inhabited α] (f : α → AV) (l : List α) : ([] : List AV) ++ (List.range l.length).map (fun k => f (nth l k)) = l.map f := by rw [List.nil_append, K3]
end Sv
end Go.Proofs.YtlmloohlmlahfaaGreatDoor
end
section
namespace Go.Proofs.YtlmloohlmlahfaaGreatDoor
open Go Go.RowKit
namespace Sv
attribute [local irreducible] SW SO Bn
set_option maxHeartbeats 1000000
set_option maxRecDepth 100000
def Bz {α : Type} (p : α → Bool) : List α → Int
 | [] => -1
 | x :: r => if p x then 0 else if Bz p r < 0 then -1 else Bz p r + 1
theorem Li {α : Type} (p : α → Bool) : ∀ l : List α, -1 ≤ Bz p l ∧ Bz p l < l.length
 | [] => by simp [Bz]
 | x :: r => by
  have := Li p r
  unfold Bz
  simp only [List.length_cons]
  split
  ·omega
  ·split <;> omega
theorem J6 {α : Type} [Inhabited α] {p : α → Bool} : ∀ {l : List α} {i : Nat}, i < l.length → (∀ j, j < i → p (nth l j) = false) → p (nth l i) = true → Bz p l = (i : Int)
 | [], _, h, _, _ => by simp at h
 | x :: r, 0, _, _, h => by
  have : p x = true := h
  simp [Bz, this]
 | x :: r, i + 1, hi, h, hp => by
  have h0 : p x = false := h 0 (by omega)
  have := J6 (l := r) (i := i) (by simpa using hi) (fun j hj => h (j + 1) (by omega)) hp
  unfold Bz
  rw [if_neg (by simp [h0]), this, if_neg (by omega)]; omega
theorem J5 {α : Type} [Inhabited α] {p : α → Bool} : ∀ {l : List α}, (∀ j, j < l.length → p (nth l j) = false) → Bz p l = -1
 | [], _ => rfl
 | x :: r, h => by
  have h0 : p x = false := h 0 (by simp)
  have := J5 (l := r) (fun j hj => h (j + 1) (by simpa using hj))
  unfold Bz
  rw [if_neg (by simp [h0]), this]; rfl
theorem J7 {α : Type} (p : α → Bool) : ∀ l : List α, decide (0 ≤ Bz p l) = l.any p
 | [] => rfl
 | x :: r => by
  have := J7 p r
  unfold Bz
  rw [List.any_cons, ← this]
  split
  ·rename_i h; simp [h]
  ·rename_i h
   have h' : p x = false := by simpa using h
   rw [h', Bool.false_or]
   split
   ·rename_i h2; rw [decide_eq_false (by omega), decide_eq_false (by omega)]
   ·rename_i h2; rw [decide_eq_true (by omega), decide_eq_true (by omega)]
theorem Pf {d : DepT} (h : d.kind = 1) : C5 d = Hu d.name d.op d.evr d.args.length := by cases d; unfold C5; exact if_pos h
theorem Ka {d : DepT} (h : ¬ d.kind = 1) : C5 d = (!Gs d.kind d.name d.op d.evr d.args.length && argsForm d.kind d.args) := by cases d; unfold C5; exact if_neg h
theorem Q58 {d : DepT} (h : d.kind = 1) : D8 d = 1 := by cases d; unfold D8; exact if_pos h
theorem Q59 {d : DepT} (h : ¬ d.kind = 1) : D8 d = argsParts d.args := by cases d; unfold D8; exact if_neg h
theorem Q7d (d : DepT) : Ef d = (if d.kind = 1 then 1 else 0) + argsNames d.args := by cases d; unfold Ef; rfl
theorem Q7i (k : Int) : (Bt [((4 : Int), (3 : Int)), (6, 2)] k).getD 0 = Eg k := by
 have := Q7h k
 have e : D2 (D2 ([] : List (Int × Int)) 4 3) 6 2 = [(4, 3), (6, 2)] := rfl
 rw [e] at this
 cases h : Bt [((4 : Int), (3 : Int)), (6, 2)] k <;> simp_all
theorem Tg (l : List DepT) (a : AV) (p : DepT → Bool) (hl : l.length ≤ 4611686018427387904) (ha : ∀ i, i < l.length → FunV Tryz.prog a [(.agg [(.int .i64 ((nth l i).kind)), (.str ((nth l i).name)), (.int .i64 ((nth l i).op)), (.str ((nth l i).evr)), (.row 5 (nth l i).args.length (depAt (nth l i).args))])] (.bool (p (nth l i)))) :
  FnV Tryz.prog 133 [(Ac 5 Al l), (.clo a)] (.int .i64 (Bz p l)) := by
 refine A4 [.tmp 4] Tryz.func133 rfl Tryz.ntmps133 rfl rfl (fun B F hF => ?_)
 refine Aa [] [0, 1] ?_
 refine Ad ?_
 refine Aa [] [0, 1, 7, 8] ?_
 refine A1 ?_
 refine Bv (fun g y => ∃ (i : Nat), i ≤ l.length ∧ (∀ j, j < i → p (nth l j) = false) ∧ y = ⟨[(0, (Ac 5 Al l)), (1, (.clo a)), (7, (.int .i64 ((l.length : Int)))), (8, (.int .i64 ((i : Int))))], [], 0⟩ ∧ g = l.length - i) [0, 1, 7, 8] 0 _ (by omega) ⟨0, (by omega), (by exact fun j hj => by omega), (by kernel_rfl), rfl⟩ ?_
 rintro g1 y1 ⟨i, f1_1, f1_2, rfl, rfl⟩
 refine Aa [] [0, 1, 7, 8, 9] ?_
 refine Ad ?_
 refine A6 (p := (i : Int) < (l.length : Int)) (by kernel_rfl) (fun c1 => ?_) (fun c1 => ?_)
 ·refine Ai ?_
  refine Ad ?_
  refine A1 ?_
  refine Aa [] [0, 1, 5, 7, 8] ?_
  refine Ad ?_
  refine Ap ?_
  refine Bq 5 0 [] [0, 1, 5, 7, 8, 11, 15] [] hk0 v0 (cc 3 (p := (0 ≤ (i : Int) ∧ i < l.length)) (by omega) <| c0) ?_
  refine Fd (s' := [(0, (Ac 5 Al l)), (1, (.clo a)), (5, (.int .i64 ((i : Int)))), (7, (.int .i64 ((l.length : Int)))), (8, (.int .i64 ((i : Int)))), (11, (.clo a)), (15, (.agg [(.int .i64 ((nth l i).kind)), (.str ((nth l i).name)), (.int .i64 ((nth l i).op)), (.str ((nth l i).evr)), (.row 5 (nth l i).args.length (depAt (nth l i).args))])), (16, (.bool (p (nth l i))))]) (a := (.clo a)) (al := [(.agg [(.int .i64 ((nth l i).kind)), (.str ((nth l i).name)), (.int .i64 ((nth l i).op)), (.str ((nth l i).evr)), (.row 5 (nth l i).args.length (depAt (nth l i).args))])]) (r := (.bool (p (nth l i)))) (by kernel_rfl) (by kernel_rfl) (by kernel_rfl) (by kernel_rfl) (by kernel_rfl) ((ha i (by omega)).clo) (by kernel_rfl) ?_
  refine Bx ?_
  refine Bd (q := p (nth l i)) (by kernel_rfl) (fun c2 => ?_) (fun c2 => ?_)
  ·try simp only [Ao] at c2
   refine Aa [] [4] ?_
   refine Ag ?_
   refine RK wR [(.int .i64 ((i : Int)))] ?_
   exact Same.of_eq (by rw [J6 (by omega) f1_2 (by simp_all)]; rfl)
  ·try simp only [Ao] at c2
   refine Ai ?_
   refine Ap ?_
   refine Av 0 [] [0, 1, 7, 8] [] hk0 v0 (cc 0 (p := (-9223372036854775808 ≤ (i : Int) + 1 ∧ (i : Int) + 1 ≤ 9223372036854775807)) (by omega) <| c0) ?_
   refine ⟨by kernel_rfl, _, ?_, i + 1, ?_, ?_, (by kernel_rfl), rfl⟩
   ·omega
   ·omega
   ·intro j hj
    by_cases h : j = i
    ·subst h; simp_all
    ·exact f1_2 j (by omega)
 ·refine Br ?_
  refine Aa [] [4] ?_
  refine Ag ?_
  refine RK wR [(.int .i64 (-1))] ?_
  exact Same.of_eq (by rw [J5 (fun j hj => f1_2 j (by omega))]; rfl)
theorem Px (l : List DepT) (a : AV) (p : DepT → Bool) (hl : l.length ≤ 4611686018427387904) (ha : ∀ i, i < l.length → FunV Tryz.prog a [(.agg [(.int .i64 ((nth l i).kind)), (.str ((nth l i).name)), (.int .i64 ((nth l i).op)), (.str ((nth l i).evr)), (.row 5 (nth l i).args.length (depAt (nth l i).args))])] (.bool (p (nth l i)))) :
  FnV Tryz.prog 88 [(Ac 5 Al l), (.clo a)] (.bool (l.any p)) := by
 refine A4 [.tmp 4] Tryz.func88 rfl Tryz.ntmps88 rfl rfl (fun B F hF => ?_)
 refine Aa [] [0, 1] ?_
 refine Ah [] [4] [] (hk 2 Tb (Tg l a p hl ha) <| hk0) v0 c0 ?_
 refine Ag ?_
 refine RK wR [(.bool (decide (0 ≤ (Bz p l))))] ?_
 exact Same.of_eq (by simp only [Ak]; rw [J7])
theorem Q86 (a d : DepT) (ih : FnV Tryz.prog 148 [Al a] (.bool (C5 a))) :
  FnV Tryz.prog 190 [(.agg [(.int .i64 a.kind), (.str a.name), (.int .i64 a.op), (.str a.evr), (.row 5 a.args.length (depAt a.args))]), (.fp (.agg [(.int .i64 d.kind), (.str d.name), (.int .i64 d.op), (.str d.evr), (.row 5 d.args.length (depAt d.args))]))] (.bool (Lo d.kind a)) := by
 refine A4 [.tmp 3] Tryz.func190 rfl Tryz.ntmps190 rfl rfl (fun B F hF => ?_)
 refine Ah [] [1, 2] [(1, 2)] hk0 v0 c0 ?_
 obtain ⟨b1, hb1⟩ : ∃ b, b = (decide (a.kind = 1)) := ⟨_, rfl⟩
 obtain ⟨b2, hb2⟩ : ∃ b, b = (b1 || (decide (a.kind = 5))) := ⟨_, rfl⟩
 refine Ah (CS := [(5, ((!b1) = true → (!b1) = true)), (6, ((!b1) = true → (!b1) = true)), (7, (b1 = false → (!b1) = true)), (10, ((!b2) = true → (!b2) = true)), (11, ((!b2) = true → (!b2) = true)), (12, (b2 = false → (!b2) = true))]) [9, 10, 11, 14, 15, 16] [1, 2, 4] [] hk0 (vk 4 8 (a := .bool (decide (a.kind = 1))) (b := .bool b1) (Imp.of_eq (by rw [hb1])) <| vk 9 13 (a := .bool (b1 || (decide (a.kind = 5)))) (b := .bool b2) (Imp.of_eq (by rw [hb2])) <| v0) (by refine cc _ ?_ <| cc _ ?_ <| cc _ ?_ <| cc _ ?_ <| cc _ ?_ <| cc _ ?_ c0 <;> simp) ?_
 obtain ⟨b3, hb3⟩ : ∃ b, b = (decide (5 ≤ d.kind)) := ⟨_, rfl⟩
 obtain ⟨b4, hb4⟩ : ∃ b, b = (b3 && (!(b2 || (decide (a.kind = 6))))) := ⟨_, rfl⟩
 refine Ah (CS := [(5, (b3 = true → b3 = true)), (6, (b3 = true → b3 = true)), (9, (!b4) = true → (!b4) = true), (10, ((!b4) = true → (!b4) = true)), (11, (b4 = false → (!b4) = true))]) [22, 23, 26, 28] [3] [] (hkg 9 (!b4) Q0n (fun cg => ih) <| hk0) (vk 4 21 (a := .bool (decide (5 ≤ d.kind))) (b := .bool b3) (Imp.of_eq (by rw [hb3])) <| vk 8 25 (a := .bool (b3 && (!(b2 || (decide (a.kind = 6)))))) (b := .bool b4) (Imp.of_eq (by rw [hb4])) <| v0) (by refine cc _ ?_ <| cc _ ?_ <| cc _ ?_ <| cc _ ?_ <| cc _ ?_ c0 <;> simp) ?_
 refine Ag ?_
 refine RK wR [(.bool (b4 || (!(C5 a))))] ?_
 subst hb4 hb3 hb2 hb1
 refine Same.of_eq ?_
 simp only [Ak]
 congr 1
 unfold Lo Ic
 rw [Bool.eq_iff_iff]
 simp only [Bool.and_eq_true, Bool.or_eq_true, Bool.not_eq_true', Bool.and_eq_false_iff, Bool.or_eq_false_iff, decide_eq_true_eq, decide_eq_false_iff_not]
 cases C5 a <;> simp <;> omega
theorem Q88 (d : DepT) (hs : d.size ≤ 4194304) (ih : ∀ i, i < d.args.length → FnV Tryz.prog 148 [Al (nth d.args i)] (.bool (C5 (nth d.args i)))) :
  FnV Tryz.prog 148 [(.agg [(.int .i64 d.kind), (.str d.name), (.int .i64 d.op), (.str d.evr), (.row 5 d.args.length (depAt d.args))])] (.bool (C5 d)) := by
 have hda := Ep d
 have hal := Dr d.args
 refine A4 [.tmp 2] Tryz.func148 rfl Tryz.ntmps148 rfl rfl (fun B F hF => ?_)
 refine Ah [] [1] [(1, 1)] hk0 v0 c0 ?_
 refine Ad ?_
 refine Aa [] [1, 8] ?_
 refine A6 (p := d.kind = 1) (by kernel_rfl) (fun c1 => ?_) (fun c1 => ?_)
 ·refine Ah [] [1, 4] [(8, 3)] (hk 2 Ni (Pl d.evr (by omega)) <| hk0) v0 c0 ?_
  obtain ⟨b1, hb1⟩ : ∃ b, b = ((Bp d.name) && (decide ((d.args.length : Int) = 0))) := ⟨_, rfl⟩
  obtain ⟨b2, hb2⟩ : ∃ b, b = (b1 && (((decide (d.op = 0)) && (decide (d.evr = []))) || (((decide (1 ≤ d.op)) && (decide (d.op ≤ 7))) && (decide ((Cc d.evr) = 0))))) := ⟨_, rfl⟩
  have qh1 : (((Bp d.name) = true → (Bp d.name) = true)) ∧ (((Bp d.name) = true → (Bp d.name) = true)) ∧ (((Bp d.name) = true → (Bp d.name) = true)) ∧ (((Bp d.name) = true → (Bp d.name) = true)) ∧ ((b1 = true → b1 = true)) ∧ ((b1 = true → b1 = true)) ∧ ((b1 = true → b1 = true)) ∧ (((b1 && (decide (d.op = 0))) = true → (b1 && (decide (d.op = 0))) = true)) ∧ (((b1 && (decide (d.op = 0))) = true → (b1 && (decide (d.op = 0))) = true)) ∧ ((b1 = true → (b1 = true) ∧ ((decide (d.op = 0)) = true → (b1 && (decide (d.op = 0))) = true))) ∧ ((b1 = true → b1 = true)) ∧ (((b1 && (!((decide (d.op = 0)) && (decide (d.evr = []))))) = true → (b1 && (!((decide (d.op = 0)) && (decide (d.evr = []))))) = true)) ∧ (((b1 && (!((decide (d.op = 0)) && (decide (d.evr = []))))) = true → (b1 && (!((decide (d.op = 0)) && (decide (d.evr = []))))) = true)) ∧ (((b1 && (!((decide (d.op = 0)) && (decide (d.evr = []))))) = true → (b1 && (!((decide (d.op = 0)) && (decide (d.evr = []))))) = true)) ∧ ((((b1 && (!((decide (d.op = 0)) && (decide (d.evr = []))))) && (decide (1 ≤ d.op))) = true → ((b1 && (!((decide (d.op = 0)) && (decide (d.evr = []))))) && (decide (1 ≤ d.op))) = true)) ∧ ((((b1 && (!((decide (d.op = 0)) && (decide (d.evr = []))))) && (decide (1 ≤ d.op))) = true → ((b1 && (!((decide (d.op = 0)) && (decide (d.evr = []))))) && (decide (1 ≤ d.op))) = true)) ∧ (((b1 && (!((decide (d.op = 0)) && (decide (d.evr = []))))) = true → ((b1 && (!((decide (d.op = 0)) && (decide (d.evr = []))))) = true) ∧ ((decide (1 ≤ d.op)) = true → ((b1 && (!((decide (d.op = 0)) && (decide (d.evr = []))))) && (decide (1 ≤ d.op))) = true))) ∧ (((b1 && (!((decide (d.op = 0)) && (decide (d.evr = []))))) = true → (b1 && (!((decide (d.op = 0)) && (decide (d.evr = []))))) = true)) ∧ ((((b1 && (!((decide (d.op = 0)) && (decide (d.evr = []))))) && ((decide (1 ≤ d.op)) && (decide (d.op ≤ 7)))) = true → ((b1 && (!((decide (d.op = 0)) && (decide (d.evr = []))))) && ((decide (1 ≤ d.op)) && (decide (d.op ≤ 7)))) = true)) ∧ (((b1 && (!((decide (d.op = 0)) && (decide (d.evr = []))))) = true → ((b1 && (!((decide (d.op = 0)) && (decide (d.evr = []))))) = true) ∧ (((decide (1 ≤ d.op)) && (decide (d.op ≤ 7))) = true → ((b1 && (!((decide (d.op = 0)) && (decide (d.evr = []))))) && ((decide (1 ≤ d.op)) && (decide (d.op ≤ 7)))) = true))) ∧ ((b1 = true → (b1 = true) ∧ (((decide (d.op = 0)) && (decide (d.evr = []))) = false → (b1 && (!((decide (d.op = 0)) && (decide (d.evr = []))))) = true))) ∧ ((b1 = true → b1 = true)) := by
   first | omega | (simp; omega) | (simp; done) | (intros; simp_all; omega) | (intros; simp_all; done) | (intros; simp_all; by_cases h : d.op = 0 <;> simp_all)
  refine Ah [19, 20, 21, 22, 25, 26, 27, 28, 29, 30, 31, 32, 33, 34, 35, 36, 37, 38, 39, 40, 41, 42, 43, 44, 45, 46] [2] [] (hk 2 Nh (Qk d.name (by omega)) <| hk0) (vk 9 23 (a := .bool ((Bp d.name) && (decide ((d.args.length : Int) = 0)))) (b := .bool b1) (Imp.of_eq (by rw [hb1])) <| vk 33 47 (a := .bool (b1 && (((decide (d.op = 0)) && (decide (d.evr = []))) || (((decide (1 ≤ d.op)) && (decide (d.op ≤ 7))) && (decide ((Cc d.evr) = 0)))))) (b := .bool b2) (Imp.of_eq (by rw [hb2])) <| v0) (cc 5 (p := ((Bp d.name) = true → (Bp d.name) = true)) qh1.1 <| cc 6 (p := ((Bp d.name) = true → (Bp d.name) = true)) qh1.2.1 <| cc 7 (p := ((Bp d.name) = true → (Bp d.name) = true)) qh1.2.2.1 <| cc 8 (p := ((Bp d.name) = true → (Bp d.name) = true)) qh1.2.2.2.1 <| cc 11 (p := (b1 = true → b1 = true)) qh1.2.2.2.2.1 <| cc 12 (p := (b1 = true → b1 = true)) qh1.2.2.2.2.2.1 <| cc 13 (p := (b1 = true → b1 = true)) qh1.2.2.2.2.2.2.1 <| cc 15 (p := ((b1 && (decide (d.op = 0))) = true → (b1 && (decide (d.op = 0))) = true)) qh1.2.2.2.2.2.2.2.1 <| cc 16 (p := ((b1 && (decide (d.op = 0))) = true → (b1 && (decide (d.op = 0))) = true)) qh1.2.2.2.2.2.2.2.2.1 <| cc 17 (p := (b1 = true → (b1 = true) ∧ ((decide (d.op = 0)) = true → (b1 && (decide (d.op = 0))) = true))) qh1.2.2.2.2.2.2.2.2.2.1 <| cc 18 (p := (b1 = true → b1 = true)) qh1.2.2.2.2.2.2.2.2.2.2.1 <| cc 20 (p := ((b1 && (!((decide (d.op = 0)) && (decide (d.evr = []))))) = true → (b1 && (!((decide (d.op = 0)) && (decide (d.evr = []))))) = true)) qh1.2.2.2.2.2.2.2.2.2.2.2.1 <| cc 21 (p := ((b1 && (!((decide (d.op = 0)) && (decide (d.evr = []))))) = true → (b1 && (!((decide (d.op = 0)) && (decide (d.evr = []))))) = true)) qh1.2.2.2.2.2.2.2.2.2.2.2.2.1 <| cc 22 (p := ((b1 && (!((decide (d.op = 0)) && (decide (d.evr = []))))) = true → (b1 && (!((decide (d.op = 0)) && (decide (d.evr = []))))) = true)) qh1.2.2.2.2.2.2.2.2.2.2.2.2.2.1 <| cc 24 (p := (((b1 && (!((decide (d.op = 0)) && (decide (d.evr = []))))) && (decide (1 ≤ d.op))) = true → ((b1 && (!((decide (d.op = 0)) && (decide (d.evr = []))))) && (decide (1 ≤ d.op))) = true)) qh1.2.2.2.2.2.2.2.2.2.2.2.2.2.2.1 <| cc 25 (p := (((b1 && (!((decide (d.op = 0)) && (decide (d.evr = []))))) && (decide (1 ≤ d.op))) = true → ((b1 && (!((decide (d.op = 0)) && (decide (d.evr = []))))) && (decide (1 ≤ d.op))) = true)) qh1.2.2.2.2.2.2.2.2.2.2.2.2.2.2.2.1 <| cc 26 (p := ((b1 && (!((decide (d.op = 0)) && (decide (d.evr = []))))) = true → ((b1 && (!((decide (d.op = 0)) && (decide (d.evr = []))))) = true) ∧ ((decide (1 ≤ d.op)) = true → ((b1 && (!((decide (d.op = 0)) && (decide (d.evr = []))))) && (decide (1 ≤ d.op))) = true))) qh1.2.2.2.2.2.2.2.2.2.2.2.2.2.2.2.2.1 <| cc 27 (p := ((b1 && (!((decide (d.op = 0)) && (decide (d.evr = []))))) = true → (b1 && (!((decide (d.op = 0)) && (decide (d.evr = []))))) = true)) qh1.2.2.2.2.2.2.2.2.2.2.2.2.2.2.2.2.2.1 <| cc 29 (p := (((b1 && (!((decide (d.op = 0)) && (decide (d.evr = []))))) && ((decide (1 ≤ d.op)) && (decide (d.op ≤ 7)))) = true → ((b1 && (!((decide (d.op = 0)) && (decide (d.evr = []))))) && ((decide (1 ≤ d.op)) && (decide (d.op ≤ 7)))) = true)) qh1.2.2.2.2.2.2.2.2.2.2.2.2.2.2.2.2.2.2.1 <| cc 30 (p := ((b1 && (!((decide (d.op = 0)) && (decide (d.evr = []))))) = true → ((b1 && (!((decide (d.op = 0)) && (decide (d.evr = []))))) = true) ∧ (((decide (1 ≤ d.op)) && (decide (d.op ≤ 7))) = true → ((b1 && (!((decide (d.op = 0)) && (decide (d.evr = []))))) && ((decide (1 ≤ d.op)) && (decide (d.op ≤ 7)))) = true))) qh1.2.2.2.2.2.2.2.2.2.2.2.2.2.2.2.2.2.2.2.1 <| cc 31 (p := (b1 = true → (b1 = true) ∧ (((decide (d.op = 0)) && (decide (d.evr = []))) = false → (b1 && (!((decide (d.op = 0)) && (decide (d.evr = []))))) = true))) qh1.2.2.2.2.2.2.2.2.2.2.2.2.2.2.2.2.2.2.2.2.1 <| cc 32 (p := (b1 = true → b1 = true)) qh1.2.2.2.2.2.2.2.2.2.2.2.2.2.2.2.2.2.2.2.2.2 <| c0) ?_
  refine Ag ?_
  refine RK wR [(.bool b2)] ?_
  subst hb2 hb1
  refine Same.of_eq ?_
  simp only [Ak]
  rw [Pf c1, Y9]
  congr 1
  rw [Bool.eq_iff_iff]
  simp only [Bool.and_eq_true, Bool.or_eq_true, decide_eq_true_eq, and_assoc]
  rw [show ((d.args.length : Int) = 0) = (d.args.length = 0) from propext (by omega)]
 ·refine Ai ?_
  refine Ad ?_
  refine Ap ?_
  refine Bq 1 0 [] [1, 48] [] hk0 v0 c0 ?_
  refine Q23 (b := 1) (k := 4) (a := 3) (c := 0) (es := []) (m := []) (by kernel_rfl) (by kernel_rfl) (by kernel_rfl) (by kernel_rfl) (by kernel_rfl) (by kernel_rfl) (by kernel_rfl) Tryz.underlying218 Tryz.underlying3 ?_
  refine Q23 (b := 1) (k := 6) (a := 2) (c := 1) (es := [(.int .i64 4, .int .i64 3, 0)]) (m := [(4, 3)]) (by kernel_rfl) (by kernel_rfl) (by kernel_rfl) (by kernel_rfl) (by kernel_rfl) (by kernel_rfl) (by kernel_rfl) Tryz.underlying218 Tryz.underlying3 ?_
  refine Bq 3 3 [] [1, 49, 51] [] hk0 v0 c0 ?_
  refine X4a (b := 1) (c := 2) (es := [(.int .i64 4, .int .i64 3, 0), (.int .i64 6, .int .i64 2, 1)]) (m := [(4, 3), (6, 2)]) (s' := [(1, (.fp (.agg [(.int .i64 d.kind), (.str d.name), (.int .i64 d.op), (.str d.evr), (.row 5 d.args.length (depAt d.args))]))), (49, (.map 1)), (51, (.int .i64 d.kind)), (52, (.int .i64 (Eg d.kind)))]) (by kernel_rfl) (by kernel_rfl) (by kernel_rfl) (by kernel_rfl) (by kernel_rfl) Tryz.underlying218 Tryz.underlying3 (fun _ => by kernel_rfl) (Q7i d.kind) (by kernel_rfl) ?_
  refine Av 7 [] [1, 5] [] hk0 v0 c0 ?_
  refine Ad ?_
  obtain ⟨b3, hb3⟩ : ∃ b, b = (decide (d.kind < 2)) := ⟨_, rfl⟩
  obtain ⟨b4, hb4⟩ : ∃ b, b = (b3 || (decide (6 < d.kind))) := ⟨_, rfl⟩
  obtain ⟨b5, hb5⟩ : ∃ b, b = (b4 || (!decide (d.name = []))) := ⟨_, rfl⟩
  obtain ⟨b6, hb6⟩ : ∃ b, b = (b5 || (!decide (d.op = 0))) := ⟨_, rfl⟩
  obtain ⟨b7, hb7⟩ : ∃ b, b = (b6 || (!decide (d.evr = []))) := ⟨_, rfl⟩
  obtain ⟨b8, hb8⟩ : ∃ b, b = (b7 || (decide ((d.args.length : Int) < 2))) := ⟨_, rfl⟩
  refine Ah (CS := [(5, ((!b3) = true → (!b3) = true)), (6, ((!b3) = true → (!b3) = true)), (7, (b3 = false → (!b3) = true)), (10, ((!b4) = true → (!b4) = true)), (11, ((!b4) = true → (!b4) = true)), (12, (b4 = false → (!b4) = true)), (15, ((!b5) = true → (!b5) = true)), (16, ((!b5) = true → (!b5) = true)), (17, (b5 = false → (!b5) = true)), (20, ((!b6) = true → (!b6) = true)), (21, ((!b6) = true → (!b6) = true)), (22, (b6 = false → (!b6) = true)), (25, ((!b7) = true → (!b7) = true)), (26, ((!b7) = true → (!b7) = true)), (27, ((!b7) = true → (!b7) = true)), (28, (b7 = false → (!b7) = true)), (31, ((!b8) = true → (!b8) = true)), (32, ((!b8) = true → (!b8) = true)), (34, (((!b8) && (decide (0 < (Eg d.kind)))) = true → ((!b8) && (decide (0 < (Eg d.kind)))) = true)), (35, (((!b8) && (decide (0 < (Eg d.kind)))) = true → ((!b8) && (decide (0 < (Eg d.kind)))) = true)), (37, (((!b8) && (decide (0 < (Eg d.kind)))) = true → ((!b8) && (decide (0 < (Eg d.kind)))) = true ∧ ((!b8) && (decide (0 < (Eg d.kind)))) = true)), (38, ((!b8) = true → ((!b8) = true) ∧ ((decide (0 < (Eg d.kind))) = true → ((!b8) && (decide (0 < (Eg d.kind)))) = true))), (39, (b8 = false → (!b8) = true))]) [57, 58, 59, 62, 63, 64, 67, 68, 69, 72, 73, 74, 77, 78, 79, 80, 83, 84, 85, 86, 87, 88, 89, 90, 91] [1, 92] [] hk0 (vk 4 56 (a := .bool (decide (d.kind < 2))) (b := .bool b3) (Imp.of_eq (by rw [hb3])) <| vk 9 61 (a := .bool (b3 || (decide (6 < d.kind)))) (b := .bool b4) (Imp.of_eq (by rw [hb4])) <| vk 14 66 (a := .bool (b4 || (!decide (d.name = [])))) (b := .bool b5) (Imp.of_eq (by rw [hb5])) <| vk 19 71 (a := .bool (b5 || (!decide (d.op = 0)))) (b := .bool b6) (Imp.of_eq (by rw [hb6])) <| vk 24 76 (a := .bool (b6 || (!decide (d.evr = [])))) (b := .bool b7) (Imp.of_eq (by rw [hb7])) <| vk 30 82 (a := .bool (b7 || (decide ((d.args.length : Int) < 2)))) (b := .bool b8) (Imp.of_eq (by rw [hb8])) <| v0) (by refine cc _ ?_ <| cc _ ?_ <| cc _ ?_ <| cc _ ?_ <| cc _ ?_ <| cc _ ?_ <| cc _ ?_ <| cc _ ?_ <| cc _ ?_ <| cc _ ?_ <| cc _ ?_ <| cc _ ?_ <| cc _ ?_ <| cc _ ?_ <| cc _ ?_ <| cc _ ?_ <| cc _ ?_ <| cc _ ?_ <| cc _ ?_ <| cc _ ?_ <| cc _ ?_ <| cc _ ?_ <| cc _ ?_ c0 <;> (intros; simp_all; done)) ?_
  refine Bd (q := b8 || ((decide (0 < (Eg d.kind))) && (decide ((Eg d.kind) < (d.args.length : Int))))) (by kernel_rfl) (fun c2 => ?_) (fun c2 => ?_)
  ·subst hb8 hb7 hb6 hb5 hb4 hb3
   try simp only [Ao] at c2
   refine Aa [] [2] ?_
   refine Ag ?_
   refine RK wR [(.bool false)] ?_
   refine Same.of_eq ?_
   simp only [Ak]
   rw [Ka c1, Za, decide_eq_true (by rcases c2 with (((((h | h) | h) | h) | h) | h) | h <;> first | (simp [h]; done) | (have h' : d.args.length < 2 := (by omega); simp [h']))]
   rfl
  ·subst hb8 hb7 hb6 hb5 hb4 hb3
   try simp only [Ao] at c2
   refine Ai ?_
   refine Ah [] [2] [] (hk 3 (al := [(Ac 5 Al d.args), (.fn 190 [] [(.fp (.agg [(.int .i64 d.kind), (.str d.name), (.int .i64 d.op), (.str d.evr), (.row 5 d.args.length (depAt d.args))]))])]) Pm ((Px d.args (.fn 190 [] [.fp (Al d)]) (Lo d.kind) (by omega) (fun i hi => FunV.of (by exact X0j) (Q86 (nth d.args i) d (ih i hi)))).of_args (ImpL.cons Imp.refl (ImpL.cons (Imp.clo (by kernel_rfl)) ImpL.nil))) <| hk0) (vk 3 94 (Ha d.args) <| v0) c0 ?_
   refine Ag ?_
   refine RK wR [(.bool (!(d.args.any (Lo d.kind))))] ?_
   refine Same.of_eq ?_
   simp only [Ak]
   rw [Ka c1, Za, decide_eq_false (by rcases c2 with ⟨⟨⟨⟨⟨⟨h1, h2⟩, h3⟩, h4⟩, h5⟩, h6⟩, h7⟩; simp [h3, h4, h5]; omega), Q13]
   simp
theorem Q87 (d : DepT) : d.size ≤ 4194304 → FnV Tryz.prog 148 [Al d] (.bool (C5 d)) :=
 Pw (C := fun d => d.size ≤ 4194304 → FnV Tryz.prog 148 [Al d] (.bool (C5 d))) (fun d ih hs => Q88 d hs fun i hi => ih i hi (by have := Gj hi; omega)) d
theorem Q5m (d : DepT) (hs : d.size ≤ 4194304) (ih : ∀ i, i < d.args.length → FnV Tryz.prog 115 [Al (nth d.args i)] (.bool (C5 (nth d.args i)))) :
  FnV Tryz.prog 115 [(.agg [(.int .i64 d.kind), (.str d.name), (.int .i64 d.op), (.str d.evr), (.row 5 d.args.length (depAt d.args))])] (.bool (C5 d)) := by
 have hda := Ep d
 have hal := Dr d.args
 refine A4 [.tmp 2] Tryz.func115 rfl Tryz.ntmps115 rfl rfl (fun B F hF => ?_)
 refine Ah [] [1] [(1, 1)] hk0 v0 c0 ?_
 refine Ad ?_
 refine Aa [] [1, 12] ?_
 refine A6 (p := d.kind = 1) (by kernel_rfl) (fun c1 => ?_) (fun c1 => ?_)
 ·refine Ah [] [1, 3] [] (hk 2 Nf (Oh d.name (by omega)) <| hk0) v0 c0 ?_
  refine Ad ?_
  obtain ⟨b1, hb1⟩ : ∃ b, b = (!(Bp d.name)) := ⟨_, rfl⟩
  obtain ⟨b2, hb2⟩ : ∃ b, b = (b1 || (decide (d.op < 0))) := ⟨_, rfl⟩
  obtain ⟨b3, hb3⟩ : ∃ b, b = (b2 || (decide (7 < d.op))) := ⟨_, rfl⟩
  refine Ah (CS := [(4, ((!b1) = true → (!b1) = true)), (5, ((!b1) = true → (!b1) = true)), (6, (b1 = false → (!b1) = true)), (9, ((!b2) = true → (!b2) = true)), (10, ((!b2) = true → (!b2) = true)), (11, (b2 = false → (!b2) = true)), (14, ((!b3) = true → (!b3) = true)), (15, ((!b3) = true → (!b3) = true)), (16, ((!b3) = true → (!b3) = true)), (17, (b3 = false → (!b3) = true))]) [19, 20, 21, 24, 25, 26, 29, 30, 31, 32] [1, 33] [] hk0 (vk 3 18 (a := .bool (!(Bp d.name))) (b := .bool b1) (Imp.of_eq (by rw [hb1])) <| vk 8 23 (a := .bool (b1 || (decide (d.op < 0)))) (b := .bool b2) (Imp.of_eq (by rw [hb2])) <| vk 13 28 (a := .bool (b2 || (decide (7 < d.op)))) (b := .bool b3) (Imp.of_eq (by rw [hb3])) <| v0) (by refine cc _ ?_ <| cc _ ?_ <| cc _ ?_ <| cc _ ?_ <| cc _ ?_ <| cc _ ?_ <| cc _ ?_ <| cc _ ?_ <| cc _ ?_ <| cc _ ?_ c0 <;> simp) ?_
  refine Bd (q := b3 || (decide (0 < (d.args.length : Int)))) (by kernel_rfl) (fun c2 => ?_) (fun c2 => ?_)
  ·subst hb3 hb2 hb1
   try simp only [Ao] at c2
   refine Aa [] [2] ?_
   refine Ag ?_
   refine RK wR [(.bool false)] ?_
   refine Same.of_eq ?_
   simp only [Ak]
   rw [Pf c1, Zh (by rcases c2 with ((h | h) | h) | h <;> first | omega | simp_all)]
  ·subst hb3 hb2 hb1
   try simp only [Ao] at c2
   refine Ai ?_
   refine Ad ?_
   refine Aa [] [1, 36] ?_
   refine A6 (p := d.op = 0) (by kernel_rfl) (fun c3 => ?_) (fun c3 => ?_)
   ·refine Aa [] [2] ?_
    refine Ag ?_
    refine RK wR [(.bool (decide (d.evr = [])))] ?_
    refine Same.of_eq ?_
    simp only [Ak]
    rw [Pf c1, Q89 ⟨c2.1.1.1, by omega, by omega, by omega⟩ c3]
   ·refine Ai ?_
    refine Ah [] [5] [(8, 4)] (hk 2 S9 (Vx d.evr (by omega)) <| hk0) v0 c0 ?_
    refine Aa [] [2] ?_
    refine Ag ?_
    refine RK wR [(.bool (decide ((Cc d.evr) = 0)))] ?_
    refine Same.of_eq ?_
    simp only [Ak]
    rw [Pf c1, Q9a ⟨c2.1.1.1, by omega, by omega, by omega⟩ c3]
 ·refine Ai ?_
  refine Aa [] [1, 6] ?_
  refine Ad ?_
  obtain ⟨b4, hb4⟩ : ∃ b, b = (decide (d.kind < 2)) := ⟨_, rfl⟩
  obtain ⟨b5, hb5⟩ : ∃ b, b = (b4 || (decide (6 < d.kind))) := ⟨_, rfl⟩
  obtain ⟨b6, hb6⟩ : ∃ b, b = (b5 || (!decide (d.name = []))) := ⟨_, rfl⟩
  obtain ⟨b7, hb7⟩ : ∃ b, b = (b6 || (!decide (d.op = 0))) := ⟨_, rfl⟩
  obtain ⟨b8, hb8⟩ : ∃ b, b = (b7 || (!decide (d.evr = []))) := ⟨_, rfl⟩
  refine Ah (CS := [(5, ((!b4) = true → (!b4) = true)), (6, ((!b4) = true → (!b4) = true)), (7, (b4 = false → (!b4) = true)), (10, ((!b5) = true → (!b5) = true)), (11, ((!b5) = true → (!b5) = true)), (12, (b5 = false → (!b5) = true)), (15, ((!b6) = true → (!b6) = true)), (16, ((!b6) = true → (!b6) = true)), (17, (b6 = false → (!b6) = true)), (20, ((!b7) = true → (!b7) = true)), (21, ((!b7) = true → (!b7) = true)), (22, (b7 = false → (!b7) = true)), (25, ((!b8) = true → (!b8) = true)), (26, (b8 = false → (!b8) = true))]) [55, 56, 57, 60, 61, 62, 65, 66, 67, 70, 71, 72, 75, 76] [1, 6, 77] [] hk0 (vk 4 54 (a := .bool (decide (d.kind < 2))) (b := .bool b4) (Imp.of_eq (by rw [hb4])) <| vk 9 59 (a := .bool (b4 || (decide (6 < d.kind)))) (b := .bool b5) (Imp.of_eq (by rw [hb5])) <| vk 14 64 (a := .bool (b5 || (!decide (d.name = [])))) (b := .bool b6) (Imp.of_eq (by rw [hb6])) <| vk 19 69 (a := .bool (b6 || (!decide (d.op = 0)))) (b := .bool b7) (Imp.of_eq (by rw [hb7])) <| vk 24 74 (a := .bool (b7 || (!decide (d.evr = [])))) (b := .bool b8) (Imp.of_eq (by rw [hb8])) <| v0) (by refine cc _ ?_ <| cc _ ?_ <| cc _ ?_ <| cc _ ?_ <| cc _ ?_ <| cc _ ?_ <| cc _ ?_ <| cc _ ?_ <| cc _ ?_ <| cc _ ?_ <| cc _ ?_ <| cc _ ?_ <| cc _ ?_ <| cc _ ?_ c0 <;> simp) ?_
  refine Bd (q := b8 || (decide ((d.args.length : Int) < 2))) (by kernel_rfl) (fun c4 => ?_) (fun c4 => ?_)
  ·subst hb8 hb7 hb6 hb5 hb4
   try simp only [Ao] at c4
   refine Aa [] [2] ?_
   refine Ag ?_
   refine RK wR [(.bool false)] ?_
   refine Same.of_eq ?_
   simp only [Ak]
   rw [Ka c1, Q9k (by rcases c4 with ((((h | h) | h) | h) | h) | h <;> first | (simp [h]; done) | (have h' : d.args.length < 2 := (by omega); simp [h']))]
   rfl
  ·subst hb8 hb7 hb6 hb5 hb4
   try simp only [Ao] at c4
   refine Ai ?_
   refine Ad ?_
   obtain ⟨b9, hb9⟩ : ∃ b, b = (decide (d.kind = 4)) := ⟨_, rfl⟩
   obtain ⟨b10, hb10⟩ : ∃ b, b = (b9 && (decide (3 < (d.args.length : Int)))) := ⟨_, rfl⟩
   refine Ah (CS := [(5, (b9 = true → b9 = true)), (6, (b9 = true → b9 = true)), (9, ((!b10) = true → (!b10) = true)), (10, ((!b10) = true → (!b10) = true)), (11, ((!b10) = true → (!b10) = true)), (13, (((!b10) && (decide (d.kind = 6))) = true → ((!b10) && (decide (d.kind = 6))) = true)), (14, ((!b10) = true → ((!b10) = true) ∧ ((decide (d.kind = 6)) = true → ((!b10) && (decide (d.kind = 6))) = true))), (15, (b10 = false → (!b10) = true))]) [82, 83, 86, 87, 88, 89, 90, 91, 92] [1, 6, 93] [] hk0 (vk 4 81 (a := .bool (decide (d.kind = 4))) (b := .bool b9) (Imp.of_eq (by rw [hb9])) <| vk 8 85 (a := .bool (b9 && (decide (3 < (d.args.length : Int))))) (b := .bool b10) (Imp.of_eq (by rw [hb10])) <| v0) (by refine cc _ ?_ <| cc _ ?_ <| cc _ ?_ <| cc _ ?_ <| cc _ ?_ <| cc _ ?_ <| cc _ ?_ <| cc _ ?_ c0 <;> (intros; simp_all; done)) ?_
   refine Bd (q := b10 || ((decide (d.kind = 6)) && (decide (2 < (d.args.length : Int))))) (by kernel_rfl) (fun c5 => ?_) (fun c5 => ?_)
   ·subst hb10 hb9
    try simp only [Ao] at c5
    refine Aa [] [2] ?_
    refine Ag ?_
    refine RK wR [(.bool false)] ?_
    refine Same.of_eq ?_
    simp only [Ak]
    rw [Ka c1, Q9j (by omega)]
    rfl
   ·subst hb10 hb9
    try simp only [Ao] at c5
    have hfb : Gs d.kind d.name d.op d.evr d.args.length = false := Q9i (by rcases c4 with ⟨⟨⟨⟨⟨h1, h2⟩, h3⟩, h4⟩, h5⟩, h6⟩; simp [h3, h4, h5]; omega) (by omega)
    refine Ai ?_
    refine Ad ?_
    refine Aa [] [1, 6, 7] ?_
    refine A1 ?_
    refine Bv (fun g y => ∃ (i : Nat), i ≤ d.args.length ∧ argsForm d.kind d.args = argsForm d.kind (d.args.drop i) ∧ y = ⟨[(1, (.fp (.agg [(.int .i64 d.kind), (.str d.name), (.int .i64 d.op), (.str d.evr), (.row 5 d.args.length (depAt d.args))]))), (6, (.int .i64 ((d.args.length : Int)))), (7, (.int .i64 ((i : Int))))], [], 1⟩ ∧ g = d.args.length - i) [1, 6, 7] 1 _ (by omega) ⟨0, (by omega), (by rfl), (by kernel_rfl), rfl⟩ ?_
    rintro g1 y1 ⟨i, f1_1, f1_2, rfl, rfl⟩
    refine Ad ?_
    refine Aa [] [1, 6, 7, 96] ?_
    refine A6 (p := (i : Int) < (d.args.length : Int)) (by kernel_rfl) (fun c6 => ?_) (fun c6 => ?_)
    ·refine Ai ?_
     refine Ad ?_
     refine A1 ?_
     refine Ah [] [1, 6, 7, 8] [] hk0 (vk 3 100 (Ha d.args) <| v0) (cc 3 (p := (0 ≤ (i : Int) ∧ i < d.args.length)) (by omega) <| c0) ?_
     refine Ad ?_
     obtain ⟨b11, hb11⟩ : ∃ b, b = (decide (5 ≤ d.kind)) := ⟨_, rfl⟩
     obtain ⟨b12, hb12⟩ : ∃ b, b = (b11 && (!decide (((nth d.args i).kind) = 1))) := ⟨_, rfl⟩
     obtain ⟨b13, hb13⟩ : ∃ b, b = (b12 && (!decide (((nth d.args i).kind) = 5))) := ⟨_, rfl⟩
     refine Ah (CS := [(5, (b11 = true → b11 = true)), (6, (b11 = true → b11 = true)), (9, (b12 = true → b12 = true)), (10, (b12 = true → b12 = true)), (13, (b13 = true → b13 = true)), (14, (b13 = true → b13 = true))]) [109, 110, 113, 114, 117, 118] [1, 6, 7, 119] [] hk0 (vk 4 108 (a := .bool (decide (5 ≤ d.kind))) (b := .bool b11) (Imp.of_eq (by rw [hb11])) <| vk 8 112 (a := .bool (b11 && (!decide (((nth d.args i).kind) = 1)))) (b := .bool b12) (Imp.of_eq (by rw [hb12])) <| vk 12 116 (a := .bool (b12 && (!decide (((nth d.args i).kind) = 5)))) (b := .bool b13) (Imp.of_eq (by rw [hb13])) <| v0) (by refine cc _ ?_ <| cc _ ?_ <| cc _ ?_ <| cc _ ?_ <| cc _ ?_ <| cc _ ?_ c0 <;> simp) ?_
     refine Bd (q := b13 && (!decide (((nth d.args i).kind) = 6))) (by kernel_rfl) (fun c7 => ?_) (fun c7 => ?_)
     ·subst hb13 hb12 hb11
      try simp only [Ao] at c7
      refine Aa [] [2] ?_
      refine Ag ?_
      refine RK wR [(.bool false)] ?_
      refine Same.of_eq ?_
      simp only [Ak]
      rw [Ka c1, hfb, f1_2, Ty (by omega), Q8c (by omega)]
      rfl
     ·subst hb13 hb12 hb11
      try simp only [Ao] at c7
      refine Ai ?_
      refine Ah [] [1, 6, 7, 9] [] (hk 5 Q0u (ih i (by omega)) <| hk0) (vk 3 121 (Ha d.args) <| v0) (cc 3 (p := (0 ≤ (i : Int) ∧ i < d.args.length)) (by omega) <| c0) ?_
      refine Aa [] [1, 6, 7, 127] ?_
      refine Bd (q := !(C5 (nth d.args i))) (by kernel_rfl) (fun c8 => ?_) (fun c8 => ?_)
      ·try simp only [Ao] at c8
       refine Aa [] [2] ?_
       refine Ag ?_
       refine RK wR [(.bool false)] ?_
       refine Same.of_eq ?_
       simp only [Ak]
       rw [Ka c1, hfb, f1_2, Ty (by omega), Yl (by omega), c8]
       rfl
      ·try simp only [Ao] at c8
       refine Ai ?_
       refine Ap ?_
       refine Av 0 [] [1, 6, 7] [] hk0 v0 (cc 1 (p := (-9223372036854775808 ≤ (i : Int) + 1 ∧ (i : Int) + 1 ≤ 9223372036854775807)) (by omega) <| c0) ?_
       refine ⟨by kernel_rfl, _, ?_, i + 1, ?_, ?_, (by kernel_rfl), rfl⟩
       ·omega
       ·omega
       ·rw [f1_2, Ty (by omega), Yl (by omega), c8]; rfl
    ·refine Br ?_
     refine Aa [] [2] ?_
     refine Ag ?_
     refine RK wR [(.bool true)] ?_
     refine Same.of_eq ?_
     simp only [Ak]
     rw [Ka c1, hfb, f1_2, List.drop_of_length_le (by omega)]
     rfl
theorem Q5l (d : DepT) : d.size ≤ 4194304 → FnV Tryz.prog 115 [Al d] (.bool (C5 d)) :=
 Pw (C := fun d => d.size ≤ 4194304 → FnV Tryz.prog 115 [Al d] (.bool (C5 d))) (fun d ih hs => Q5m d hs fun i hi => ih i hi (by have := Gj hi; omega)) d
theorem Q56 (d : DepT) (hs : d.size ≤ 4194304) (ih : ∀ i, i < d.args.length → FnV Tryz.prog 116 [Al (nth d.args i)] (.int .i64 (D8 (nth d.args i) : Int))) :
  FnV Tryz.prog 116 [(.agg [(.int .i64 d.kind), (.str d.name), (.int .i64 d.op), (.str d.evr), (.row 5 d.args.length (depAt d.args))])] (.int .i64 ((D8 d : Int))) := by
 have hda := Ep d
 have hal := Dr d.args
 refine A4 [.tmp 2] Tryz.func116 rfl Tryz.ntmps116 rfl rfl (fun B F hF => ?_)
 refine Ah [] [1] [(1, 1)] hk0 v0 c0 ?_
 refine Ad ?_
 refine Aa [] [1, 7] ?_
 refine A6 (p := d.kind = 1) (by kernel_rfl) (fun c1 => ?_) (fun c1 => ?_)
 ·refine Aa [] [2] ?_
  refine Ag ?_
  refine RK wR [(.int .i64 1)] ?_
  refine Same.of_eq ?_
  simp only [Ak]
  rw [Q58 c1]
  rfl
 ·refine Ai ?_
  refine Aa [] [1, 3] ?_
  refine Ad ?_
  refine Aa [] [1, 3, 4] ?_
  refine A1 ?_
  refine Bv (fun g y => ∃ (i : Nat), i ≤ d.args.length ∧ y = ⟨[(1, (.fp (.agg [(.int .i64 d.kind), (.str d.name), (.int .i64 d.op), (.str d.evr), (.row 5 d.args.length (depAt d.args))]))), (3, (.int .i64 ((argsParts (d.args.take i) : Int)))), (4, (.int .i64 ((i : Int))))], [], 1⟩ ∧ g = d.args.length - i) [1, 3, 4] 1 _ (by omega) ⟨0, (by omega), (by kernel_rfl), rfl⟩ ?_
  rintro g1 y1 ⟨i, f1_1, rfl, rfl⟩
  have hb1 := argsParts_le (d.args.take i)
  have hb2 := fun h => Q14 (l := d.args) (i := i) h
  have hb3 := Wj (nth d.args i)
  refine Ad ?_
  refine Aa [] [1, 3, 4, 12] ?_
  refine A6 (p := (i : Int) < (d.args.length : Int)) (by kernel_rfl) (fun c2 => ?_) (fun c2 => ?_)
  ·refine Ai ?_
   refine Ad ?_
   refine A1 ?_
   refine Ap ?_
   refine Av (CS := [(4, (0 ≤ (i : Int) ∧ i < d.args.length)), (7, (-9223372036854775808 ≤ (argsParts (d.args.take i) : Int) + (D8 (nth d.args i) : Int) ∧ (argsParts (d.args.take i) : Int) + (D8 (nth d.args i) : Int) ≤ 9223372036854775807))]) 0 [] [1, 3, 4] [] (hk 6 Q0t (ih i (by omega)) <| hk0) (vk 4 17 (Ha d.args) <| v0) (by refine cc _ ?_ <| cc _ ?_ c0 <;> omega) ?_
   refine Ap ?_
   refine Av 0 [] [1, 3, 4] [] hk0 v0 (cc 1 (p := (-9223372036854775808 ≤ (i : Int) + 1 ∧ (i : Int) + 1 ≤ 9223372036854775807)) (by omega) <| c0) ?_
   refine ⟨by kernel_rfl, _, ?_, i + 1, ?_, (Eq.trans (b := (⟨[(1, (.fp (.agg [(.int .i64 d.kind), (.str d.name), (.int .i64 d.op), (.str d.evr), (.row 5 d.args.length (depAt d.args))]))), (3, (.int .i64 ((argsParts (d.args.take i) : Int) + (D8 (nth d.args i) : Int)))), (4, (.int .i64 ((i : Int) + 1)))], [], 1⟩ : St)) (by kernel_rfl) (by rw [X20 (by omega)]; rfl)), rfl⟩
   ·omega
   ·omega
  ·refine Br ?_
   refine Aa [] [2] ?_
   refine Ag ?_
   refine RK wR [(.int .i64 ((argsParts (d.args.take i) : Int)))] ?_
   refine Same.of_eq ?_
   simp only [Ak]
   rw [Q59 c1, List.take_of_length_le (by omega)]
theorem Q57 (d : DepT) : d.size ≤ 4194304 → FnV Tryz.prog 116 [Al d] (.int .i64 (D8 d : Int)) :=
 Pw (C := fun d => d.size ≤ 4194304 → FnV Tryz.prog 116 [Al d] (.int .i64 (D8 d : Int))) (fun d ih hs => Q56 d hs fun i hi => ih i hi (by have := Gj hi; omega)) d
def Fi (d : DepT) : Nat := if d.kind = 1 then 1 else 0
theorem X12 (l : List UInt8) (m : Nat) (hm : m ≤ 9000000) :
  Fy Tryz.prog 150 [(.str l), (.ptr 0 0)] [(0, (.row [(.int .i64 (((m : Nat) : Int)))] 3))] 1 (.tup []) [(0, (.row [(.int .i64 (((m + 1 : Nat) : Int)))] 3))] := by
 refine Kp [] Tryz.func150 rfl Tryz.ntmps150 rfl rfl (by kernel_rfl) (by kernel_rfl) (by kernel_rfl) (fun B F hF => ?_)
 refine Ap ?_
 refine Av 0 [] [] [] hk0 v0 (cc 1 (p := (-9223372036854775808 ≤ ((m : Nat) : Int) + 1 ∧ ((m : Nat) : Int) + 1 ≤ 9223372036854775807)) (by omega) <| c0) ?_
 refine D7 (.inr rfl) (al := []) (by kernel_rfl) ?_ ((by kernel_rfl : Dc 1 _ = some [(0, (.row [(.int .i64 (((m : Nat) : Int) + 1))] 3))]).trans ?_)
 ·rfl
 ·rfl
theorem X3j (d : DepT) (m : Nat) (hs : m + d.size ≤ 8388608) (ih : ∀ i m, i < d.args.length → m + (nth d.args i).size ≤ 8388608 → Fy Tryz.prog 149 [Al (nth d.args i), .fn 150 [] [.ptr 0 0]] [(0, .row [.int .i64 ((m : Nat) : Int)] 3)] 1 (.tup []) [(0, .row [.int .i64 ((m + Ef (nth d.args i) : Nat) : Int)] 3)]) :
  Fy Tryz.prog 149 [(.agg [(.int .i64 d.kind), (.str d.name), (.int .i64 d.op), (.str d.evr), (.row 5 d.args.length (depAt d.args))]), (.fn 150 [] [(.ptr 0 0)])] [(0, (.row [(.int .i64 (((m : Nat) : Int)))] 3))] 1 (.tup []) [(0, (.row [(.int .i64 (((m + Ef d : Nat) : Int)))] 3))] := by
 have hda := Ep d
 have hal := Dr d.args
 have ho : Fi d ≤ 1 := by unfold Fi; split <;> omega
 refine Kp [] Tryz.func149 rfl Tryz.ntmps149 rfl rfl (by kernel_rfl) (by kernel_rfl) (by kernel_rfl) (fun B F hF => ?_)
 refine Aa [] [1, 2] ?_
 refine Qe 2 (y := ⟨[(1, (.fn 150 [] [(.ptr 0 0)])), (2, (.fp (.agg [(.int .i64 d.kind), (.str d.name), (.int .i64 d.op), (.str d.evr), (.row 5 d.args.length (depAt d.args))])))], [(0, (.row [(.int .i64 (((m : Nat) : Int)))] 3))], 2⟩) (by kernel_rfl) ?_
 refine Dt (fun y => y = ⟨[(1, (.fn 150 [] [(.ptr 0 0)])), (2, (.fp (.agg [(.int .i64 d.kind), (.str d.name), (.int .i64 d.op), (.str d.evr), (.row 5 d.args.length (depAt d.args))])))], [(0, (.row [(.int .i64 (((m + Fi d : Nat) : Int)))] 3))], 2⟩) [1, 2] 2 (by omega) ?_ ?_
 ·refine Aa [] [1, 2, 8] ?_
  refine A6 (p := d.kind = 1) (by kernel_rfl) (fun c1 => ?_) (fun c1 => ?_)
  ·refine Ap ?_
   refine Bq 3 0 [] [1, 2, 9, 11] [] hk0 v0 c0 ?_
   refine Hf [0] (f := 150) (cap := [(.ptr 0 0)]) (al := [(.str d.name)]) (al' := [(.str d.name), (.ptr 0 0)]) (r := (.tup [])) (r' := (.tup [])) (s' := [(1, (.fn 150 [] [(.ptr 0 0)])), (2, (.fp (.agg [(.int .i64 d.kind), (.str d.name), (.int .i64 d.op), (.str d.evr), (.row 5 d.args.length (depAt d.args))]))), (9, (.fn 150 [] [(.ptr 0 0)])), (11, (.str d.name)), (12, (.tup []))]) (H := [(0, (.row [(.int .i64 (((m : Nat) : Int)))] 3))]) (H' := [(0, (.row [(.int .i64 (((m + 1 : Nat) : Int)))] 3))]) (h2 := [(0, (.row [(.int .i64 (((m + 1 : Nat) : Int)))] 3))]) (by kernel_rfl) (by kernel_rfl) (by exact X0z) (by kernel_rfl) (by kernel_rfl) (by kernel_rfl) (by kernel_rfl) (by kernel_rfl) (X12 d.name m (by omega)) (by kernel_rfl) (by kernel_rfl) (by kernel_rfl) ?_
   refine Bx ?_
   refine ⟨by kernel_rfl, (Eq.trans (b := (⟨[(1, (.fn 150 [] [(.ptr 0 0)])), (2, (.fp (.agg [(.int .i64 d.kind), (.str d.name), (.int .i64 d.op), (.str d.evr), (.row 5 d.args.length (depAt d.args))])))], [(0, (.row [(.int .i64 (((m + 1 : Nat) : Int)))] 3))], 2⟩ : St)) (by kernel_rfl) (by unfold Fi; rw [if_pos c1]))⟩
  ·refine Ai ?_
   refine ⟨by kernel_rfl, (Eq.trans (b := (⟨[(1, (.fn 150 [] [(.ptr 0 0)])), (2, (.fp (.agg [(.int .i64 d.kind), (.str d.name), (.int .i64 d.op), (.str d.evr), (.row 5 d.args.length (depAt d.args))])))], [(0, (.row [(.int .i64 (((m : Nat) : Int)))] 3))], 2⟩ : St)) (by kernel_rfl) (by unfold Fi; rw [if_neg c1]; rfl))⟩
 ·rintro y1 rfl
  refine Aa [] [1, 14, 15, 16] ?_
  refine A1 ?_
  refine T8 14 (Ac 5 Al d.args) (by kernel_rfl) (Ha d.args) ?_
  refine Bv (fun g y => ∃ (i : Nat), i ≤ d.args.length ∧ y = ⟨[(1, (.fn 150 [] [(.ptr 0 0)])), (14, (Ac 5 Al d.args)), (15, (.int .i64 ((d.args.length : Int)))), (16, (.int .i64 ((i : Int))))], [(0, (.row [(.int .i64 (((m + Fi d + argsNames (d.args.take i) : Nat) : Int)))] 3))], 2⟩ ∧ g = d.args.length - i) [1, 14, 15, 16] 2 _ (by omega) ⟨0, (by omega), (Eq.trans (b := (⟨[(1, (.fn 150 [] [(.ptr 0 0)])), (14, (Ac 5 Al d.args)), (15, (.int .i64 ((d.args.length : Int)))), (16, (.int .i64 0))], [(0, (.row [(.int .i64 (((m + Fi d : Nat) : Int)))] 3))], 2⟩ : St)) (by kernel_rfl) (by simp only [List.take_zero, argsNames, Nat.add_zero]; rfl)), rfl⟩ ?_
  rintro g1 y1 ⟨i, f1_1, rfl, rfl⟩
  have hb1 := argsNames_le (d.args.take i)
  have hb2 := fun h => Q14 (l := d.args) (i := i) h
  refine Aa [] [1, 14, 15, 16, 17] ?_
  refine Ad ?_
  refine A6 (p := (i : Int) < (d.args.length : Int)) (by kernel_rfl) (fun c2 => ?_) (fun c2 => ?_)
  ·refine Ai ?_
   refine Ad ?_
   refine A1 ?_
   refine Ah [] [1, 5, 14, 15, 16] [] hk0 v0 (cc 0 (p := (0 ≤ (i : Int) ∧ i < d.args.length)) (by omega) <| c0) ?_
   refine Ap ?_
   refine Bq 2 0 [] [1, 14, 15, 16, 20, 21] [(0, 5)] hk0 v0 c0 ?_
   refine L6 [0] (al := [(.agg [(.int .i64 ((nth d.args i).kind)), (.str ((nth d.args i).name)), (.int .i64 ((nth d.args i).op)), (.str ((nth d.args i).evr)), (.row 5 (nth d.args i).args.length (depAt (nth d.args i).args))]), (.fn 150 [] [(.ptr 0 0)])]) (al' := [(.agg [(.int .i64 ((nth d.args i).kind)), (.str ((nth d.args i).name)), (.int .i64 ((nth d.args i).op)), (.str ((nth d.args i).evr)), (.row 5 (nth d.args i).args.length (depAt (nth d.args i).args))]), (.fn 150 [] [(.ptr 0 0)])]) (r := (.tup [])) (r' := (.tup [])) (s' := [(1, (.fn 150 [] [(.ptr 0 0)])), (14, (Ac 5 Al d.args)), (15, (.int .i64 ((d.args.length : Int)))), (16, (.int .i64 ((i : Int)))), (20, (.agg [(.int .i64 ((nth d.args i).kind)), (.str ((nth d.args i).name)), (.int .i64 ((nth d.args i).op)), (.str ((nth d.args i).evr)), (.row 5 (nth d.args i).args.length (depAt (nth d.args i).args))])), (21, (.fn 150 [] [(.ptr 0 0)])), (22, (.tup []))]) (H := [(0, (.row [(.int .i64 (((m + Fi d + argsNames (d.args.take i) : Nat) : Int)))] 3))]) (H' := [(0, (.row [(.int .i64 (((m + Fi d + argsNames (d.args.take i) + Ef (nth d.args i) : Nat) : Int)))] 3))]) (h2 := [(0, (.row [(.int .i64 (((m + Fi d + argsNames (d.args.take i) + Ef (nth d.args i) : Nat) : Int)))] 3))]) (by kernel_rfl) (by exact Q0m) (by kernel_rfl) (by kernel_rfl) (by kernel_rfl) (by kernel_rfl) (by kernel_rfl) (ih i (m + Fi d + argsNames (d.args.take i)) (by omega) (by have := hb2 (by omega); omega)) (by kernel_rfl) (by kernel_rfl) (by kernel_rfl) ?_
   refine Bx ?_
   refine Ap ?_
   refine Av 0 [] [1, 14, 15, 16] [] hk0 v0 (cc 0 (p := (-9223372036854775808 ≤ (i : Int) + 1 ∧ (i : Int) + 1 ≤ 9223372036854775807)) (by omega) <| c0) ?_
   refine ⟨by kernel_rfl, _, ?_, i + 1, ?_, (Eq.trans (b := (⟨[(1, (.fn 150 [] [(.ptr 0 0)])), (14, (Ac 5 Al d.args)), (15, (.int .i64 ((d.args.length : Int)))), (16, (.int .i64 ((i : Int) + 1)))], [(0, (.row [(.int .i64 (((m + Fi d + argsNames (d.args.take i) + Ef (nth d.args i) : Nat) : Int)))] 3))], 2⟩ : St)) (by kernel_rfl) (by rw [X21 (by omega)]; simp only [Nat.add_assoc]; rfl)), rfl⟩
   all_goals omega
  ·refine Br ?_
   refine D7 (.inr rfl) (al := []) (by kernel_rfl) ?_ ((by kernel_rfl : Dc 1 _ = some [(0, (.row [(.int .i64 (((m + Fi d + argsNames (d.args.take i) : Nat) : Int)))] 3))]).trans ?_)
   ·rfl
   ·rw [Q7d, List.take_of_length_le (by omega)]; simp only [Fi, Nat.add_assoc]
theorem X3i (d : DepT) : ∀ m, m + d.size ≤ 8388608 → Fy Tryz.prog 149 [Al d, .fn 150 [] [.ptr 0 0]] [(0, .row [.int .i64 ((m : Nat) : Int)] 3)] 1 (.tup []) [(0, .row [.int .i64 ((m + Ef d : Nat) : Int)] 3)] :=
 Pw (C := fun d => ∀ m, m + d.size ≤ 8388608 → Fy Tryz.prog 149 [Al d, .fn 150 [] [.ptr 0 0]] [(0, .row [.int .i64 ((m : Nat) : Int)] 3)] 1 (.tup []) [(0, .row [.int .i64 ((m + Ef d : Nat) : Int)] 3)]) (fun d ih m hs => X3j d m hs fun i m hi h => ih i hi m h) d
theorem Q3l (d : DepT) (hs : d.size ≤ 4194304) :
  FnV Tryz.prog 95 [(.agg [(.int .i64 d.kind), (.str d.name), (.int .i64 d.op), (.str d.evr), (.row 5 d.args.length (depAt d.args))])] (.int .i64 (Cp d)) := by
 refine A4 [.tmp 2] Tryz.func95 rfl Tryz.ntmps95 rfl rfl (fun B F hF => ?_)
 refine Ah [] [1] [(1, 1)] hk0 v0 c0 ?_
 refine Ad ?_
 refine Ah [] [1, 6] [] (hk 1 Q0n (Q87 d hs) <| hk0) v0 c0 ?_
 refine Bd (q := !(C5 d)) (by kernel_rfl) (fun c1 => ?_) (fun c1 => ?_)
 ·try simp only [Ao] at c1
  refine Aa [] [2] ?_
  refine Ag ?_
  refine RK wR [(.int .i64 50)] ?_
  refine Same.of_eq ?_
  simp only [Ak]
  rw [Cp, c1]
  rfl
 ·try simp only [Ao] at c1
  refine Ai ?_
  refine Aa [] [1, 3] ?_
  refine Ad ?_
  refine Ap ?_
  refine Bq 2 0 [] [3, 7, 8] [] hk0 v0 c0 ?_
  refine L6 [1] (al := [(.agg [(.int .i64 d.kind), (.str d.name), (.int .i64 d.op), (.str d.evr), (.row 5 d.args.length (depAt d.args))]), (.fn 150 [] [(.ptr 1 0)])]) (al' := [(.agg [(.int .i64 d.kind), (.str d.name), (.int .i64 d.op), (.str d.evr), (.row 5 d.args.length (depAt d.args))]), (.fn 150 [] [(.ptr 0 0)])]) (r := (.tup [])) (r' := (.tup [])) (s' := [(3, (.ptr 1 0)), (7, (.agg [(.int .i64 d.kind), (.str d.name), (.int .i64 d.op), (.str d.evr), (.row 5 d.args.length (depAt d.args))])), (8, (.fn 150 [] [(.ptr 1 0)])), (9, (.tup []))]) (H := [(0, (.row [(.int .i64 0)] 3))]) (H' := [(0, (.row [(.int .i64 (((0 + Ef d : Nat) : Int)))] 3))]) (h2 := [(1, (.row [(.int .i64 (((0 + Ef d : Nat) : Int)))] 3))]) (by kernel_rfl) (by exact Q0m) (by kernel_rfl) (by kernel_rfl) (by kernel_rfl) (by kernel_rfl) (by kernel_rfl) (X3i d 0 (by omega)) (by kernel_rfl) (by kernel_rfl) (by kernel_rfl) ?_
  refine Bx ?_
  refine Ad ?_
  refine Aa [] [11] ?_
  refine A6 (p := 16 < ((0 + Ef d : Nat) : Int)) (by kernel_rfl) (fun c2 => ?_) (fun c2 => ?_)
  ·refine Aa [] [2] ?_
   refine Ag ?_
   refine RK wR [(.int .i64 51)] ?_
   refine Same.of_eq ?_
   simp only [Ak]
   rw [Cp, c1, if_pos rfl, if_pos (by have := R4 d c1; omega)]
  ·refine Ai ?_
   refine Aa [] [2] ?_
   refine Ag ?_
   refine RK wR [(.int .i64 0)] ?_
   refine Same.of_eq ?_
   simp only [Ak]
   rw [Cp, c1, if_pos rfl, if_neg (by have := R4 d c1; omega)]
theorem Q5q (d : DepT) (hs : d.size ≤ 4194304) :
  FnV Tryz.prog 51 [(.agg [(.int .i64 d.kind), (.str d.name), (.int .i64 d.op), (.str d.evr), (.row 5 d.args.length (depAt d.args))])] (.int .i64 (Cp d)) := by
 refine A4 [.tmp 2] Tryz.func51 rfl Tryz.ntmps51 rfl rfl (fun B F hF => ?_)
 refine Ah [] [1] [(1, 1)] hk0 v0 c0 ?_
 refine Ah [] [1, 3] [] (hk 1 Q0u (Q5l d hs) <| hk0) v0 c0 ?_
 refine Ad ?_
 refine Aa [] [1, 7] ?_
 refine Bd (q := !(C5 d)) (by kernel_rfl) (fun c1 => ?_) (fun c1 => ?_)
 ·try simp only [Ao] at c1
  refine Aa [] [2] ?_
  refine Ag ?_
  refine RK wR [(.int .i64 50)] ?_
  refine Same.of_eq ?_
  simp only [Ak]
  rw [Cp, c1]
  rfl
 ·try simp only [Ao] at c1
  refine Ai ?_
  refine Ad ?_
  refine Ah [] [10] [] (hk 1 Q0t (Q57 d hs) <| hk0) v0 c0 ?_
  refine A6 (p := 16 < (D8 d : Int)) (by kernel_rfl) (fun c2 => ?_) (fun c2 => ?_)
  ·refine Aa [] [2] ?_
   refine Ag ?_
   refine RK wR [(.int .i64 51)] ?_
   refine Same.of_eq ?_
   simp only [Ak]
   rw [Cp, c1, if_pos rfl, if_pos (by omega)]
  ·refine Ai ?_
   refine Aa [] [2] ?_
   refine Ag ?_
   refine RK wR [(.int .i64 0)] ?_
   refine Same.of_eq ?_
   simp only [Ak]
   rw [Cp, c1, if_pos rfl, if_neg (by omega)]
end Sv
end Go.Proofs.YtlmloohlmlahfaaGreatDoor
end
section
namespace Go.Proofs.YtlmloohlmlahfaaGreatDoor
open Go Go.RowKit
namespace Sv
attribute [local irreducible] SW SO Bn
set_option maxHeartbeats 400000
set_option maxRecDepth 100000
theorem Zy : Au Tryz.prog 71 := Ay Tryz.func71 (by kernel_rfl) rfl
theorem X1f : Au Tryz.prog 114 := Ay Tryz.func114 (by kernel_rfl) rfl
theorem I9 : Au Tryz.prog 113 := Ay Tryz.func113 (by kernel_rfl) rfl
theorem Q0v : Au Tryz.prog 112 := Ay Tryz.func112 (by kernel_rfl) rfl
theorem Z5 : Au Tryz.prog 50 := Ay Tryz.func50 (by kernel_rfl) rfl
theorem X1o : Au Tryz.prog 101 := Ay Tryz.func101 (by kernel_rfl) rfl
theorem Z6 : Au Tryz.prog 46 := Ay Tryz.func46 (by kernel_rfl) rfl
theorem X2c (l : List (List UInt8)) (hl : l.length ≤ 4611686018427) :
  FnV Tryz.prog 114 [(C3 l)] (C3 l) := by
 refine A4 [.tmp 2] Tryz.func114 rfl Tryz.ntmps114 rfl rfl (fun B F hF => ?_)
 refine Aa [] [0] ?_
 refine Ad ?_
 refine Ad ?_
 refine Ap ?_
 refine Bq 1 0 [] [0, 3] [] hk0 v0 c0 ?_
 refine Qj (G := I0 (C3 l)) (sz := 1) (m := l.length) (e := 9) (by kernel_rfl) (by kernel_rfl) (by kernel_rfl) (by kernel_rfl) (fun nq1 => ⟨[(0, (C3 l)), (3, (C3 l)), (4, (.bool nq1))], by kernel_rfl, fun hnq1 => ?_⟩)
 refine Bx ?_
 refine Bd (q := nq1) (by kernel_rfl) (fun c1 => ?_) (fun c1 => ?_)
 ·try simp only [Ao] at c1
  refine Aa [] [2] ?_
  refine Ag ?_
  refine RK wR [.nils] ?_
  simp only [Ak]
  exact (Same.of_eq rfl).trans (Imp.same (by have := hnq1 (by simp_all); have : l = [] := List.length_eq_zero_iff.1 this; subst this; exact Imp.nil))
 ·try simp only [Ao] at c1
  refine Ai ?_
  refine Ah [] [2] [] hk0 v0 (cc 2 (p := ((([] : List AV).length + l.length) * 16 ≤ 140737488355328)) (by (simp; omega)) <| c0) ?_
  refine Ag ?_
  refine RK wR [(.row 1 (([] : List AV) ++ ((List.range l.length).map (fun kx => ((.str (nth l kx)) : AV)))).length (fun ix => (([] : List AV) ++ ((List.range l.length).map (fun kx => ((.str (nth l kx)) : AV)))).getD ix Bm))] ?_
  simp only [Ak]
  exact Same.grown (f := AV.str) (l := l) (by simp [K3])
theorem W2 (l : List DepT) (hs : argsSize l ≤ 4194304) (ih : ∀ i, i < l.length → FnV Tryz.prog 113 [Dj (nth l i).args] (.row 5 (nth l i).args.length (depAt (nth l i).args))) :
  FnV Tryz.prog 113 [(Ac 5 Al l)] (.row 5 l.length (depAt l)) := by
 have hal := Dr l
 refine A4 [.tmp 2] Tryz.func113 rfl Tryz.ntmps113 rfl rfl (fun B F hF => ?_)
 refine Aa [] [0] ?_
 refine Ad ?_
 refine Ap ?_
 refine Bq 1 0 [] [5] [] hk0 v0 c0 ?_
 refine Jl [.tmp 2] (al := [(Ac 5 Al l)]) (s0 := [(5, (Ac 5 Al l))]) (by kernel_rfl) (by exact Zy) (by kernel_rfl) Tryz.func71 rfl Tryz.ntmps71 rfl (by kernel_rfl) (by kernel_rfl) (fun F1 hF1 hle1 => ?_)
 refine Aa [] [0] ?_
 refine Ad ?_
 refine Ad ?_
 refine Ap ?_
 refine Bq 1 0 [] [0, 3] [] hk0 v0 c0 ?_
 refine Qj (G := I0 (Ac 5 Al l)) (sz := 5) (m := l.length) (e := 25) (by kernel_rfl) (by kernel_rfl) (by kernel_rfl) (by kernel_rfl) (fun nq1_1 => ⟨[(0, (Ac 5 Al l)), (3, (Ac 5 Al l)), (4, (.bool nq1_1))], by kernel_rfl, fun hnq1_1 => ?_⟩)
 refine Bx ?_
 refine Bd (q := nq1_1) (by kernel_rfl) (fun c1 => ?_) (fun c1 => ?_)
 ·try simp only [Ao] at c1
  refine Aa [] [2] ?_
  refine Ag ?_
  refine Gp (.inl rfl) (al := [.nils]) (s' := [(5, (Ac 5 Al l)), (6, .nils)]) (by kernel_rfl) (by kernel_rfl) ?_
  refine Av 2 [] [0] [] hk0 v0 c0 ?_
  refine Ad ?_
  refine Aa [] [0, 7, 8, 9] ?_
  refine A1 ?_
  refine Qf 1 ?_
  refine Fc ?_
  refine Aa [] [0, 7, 8, 9, 10] ?_
  refine Ad ?_
  refine Ei (by kernel_rfl) ?_
  refine Br ?_
  refine Aa [] [2] ?_
  refine Ag ?_
  refine RK wR [.nils] ?_
  have h0 : l = [] := List.length_eq_zero_iff.1 (hnq1_1 c1)
  subst h0
  exact (Same.nil (f := Al)).trans (Pu []).same
 ·try simp only [Ao] at c1
  refine Ai ?_
  refine Ah [] [2] [] hk0 v0 (cc 2 (p := ((([] : List AV).length + l.length) * 72 ≤ 140737488355328)) (by (simp; omega)) <| c0) ?_
  refine Ag ?_
  refine Gp (.inl rfl) (al := [(.own 1)]) (s' := [(5, (Ac 5 Al l)), (6, (.own 1))]) (by kernel_rfl) (by kernel_rfl) ?_
  refine Av 2 [] [0] [] hk0 v0 c0 ?_
  refine Ad ?_
  refine Aa [] [0, 7, 8, 9] ?_
  refine A1 ?_
  refine Bv (fun g y => ∃ (i : Nat), i ≤ l.length ∧ y = ⟨[(0, (.own 1)), (7, (.own 1)), (8, (.int .i64 (((l.map Al).length : Int)))), (9, (.int .i64 ((i : Int))))], [(1, (.grow (l.map Al) 25 5))], 2⟩ ∧ g = l.length - i) [0, 7, 8, 9] 2 _ (by omega) ⟨0, (by omega), (Eq.trans (b := (⟨[(0, (.own 1)), (7, (.own 1)), (8, (.int .i64 (((([] : List AV) ++ ((List.range l.length).map (fun kx => ((.agg [(.int .i64 ((nth l kx).kind)), (.str ((nth l kx).name)), (.int .i64 ((nth l kx).op)), (.str ((nth l kx).evr)), (.row 5 (nth l kx).args.length (depAt (nth l kx).args))]) : AV)))).length : Int)))), (9, (.int .i64 0))], [(1, (.grow (([] : List AV) ++ ((List.range l.length).map (fun kx => ((.agg [(.int .i64 ((nth l kx).kind)), (.str ((nth l kx).name)), (.int .i64 ((nth l kx).op)), (.str ((nth l kx).evr)), (.row 5 (nth l kx).args.length (depAt (nth l kx).args))]) : AV)))) 25 5))], 2⟩ : St)) (by kernel_rfl) (by rw [show (([] : List AV) ++ ((List.range l.length).map (fun kx => ((.agg [(.int .i64 ((nth l kx).kind)), (.str ((nth l kx).name)), (.int .i64 ((nth l kx).op)), (.str ((nth l kx).evr)), (.row 5 (nth l kx).args.length (depAt (nth l kx).args))]) : AV)))) = l.map Al from Q6b Al l]; rfl)), rfl⟩ ?_
  rintro g2 y2 ⟨i, f2_1, rfl, rfl⟩
  have hlm : (l.map Al).length = l.length := List.length_map _
  refine Aa [] [0, 7, 8, 9, 10] ?_
  refine Ad ?_
  refine A6 (p := (i : Int) < ((l.map Al).length : Int)) (by kernel_rfl) (fun c2 => ?_) (fun c2 => ?_)
  ·refine Ai ?_
   refine Ad ?_
   refine A1 ?_
   refine Ad ?_
   refine Ap ?_
   refine Bq 1 0 [] [0, 7, 8, 9, 11] [] hk0 v0 c0 ?_
   refine L5 (b := 1) (i := i) (es := l.map Al) (e := 25) (sz := 5) (k := .i64) (s' := [(0, (.own 1)), (7, (.own 1)), (8, (.int .i64 (((l.map Al).length : Int)))), (9, (.int .i64 ((i : Int)))), (11, (.int .i64 ((i : Int)))), (12, (.op 1 (i * 5)))]) (by kernel_rfl) (by kernel_rfl) (by kernel_rfl) (by kernel_rfl) (by kernel_rfl) (by kernel_rfl) (by first | (rw [List.length_map]; omega) | simp_all) (by kernel_rfl) ?_
   refine Qi (b := 1) (e := 25) (sz := 5) (es := l.map Al) (o := i * 5) (i := i) (j := 0) (a := (.agg [(.int .i64 ((nth l i).kind)), (.str ((nth l i).name)), (.int .i64 ((nth l i).op)), (.str ((nth l i).evr)), (.row 5 (nth l i).args.length (depAt (nth l i).args))])) (r := (.agg [(.int .i64 ((nth l i).kind)), (.str ((nth l i).name)), (.int .i64 ((nth l i).op)), (.str ((nth l i).evr)), (.row 5 (nth l i).args.length (depAt (nth l i).args))])) (s' := [(0, (.own 1)), (7, (.own 1)), (8, (.int .i64 (((l.map Al).length : Int)))), (9, (.int .i64 ((i : Int)))), (11, (.int .i64 ((i : Int)))), (12, (.op 1 (i * 5))), (13, (.agg [(.int .i64 ((nth l i).kind)), (.str ((nth l i).name)), (.int .i64 ((nth l i).op)), (.str ((nth l i).evr)), (.row 5 (nth l i).args.length (depAt (nth l i).args))]))]) (by kernel_rfl) (by kernel_rfl) rfl (by kernel_rfl) (Ll (l := l) Al (by omega)) (by kernel_rfl) (by kernel_rfl) ?_
   refine Av 3 [] [0, 3, 4, 7, 8, 9] [] hk0 v0 c0 ?_
   refine Ap ?_
   refine Bq 5 0 [] [0, 7, 8, 9, 14, 15, 18] [(0, 4)] (hk 4 I9 (ih i (by omega)) <| hk0) (vk 4 17 (Ha (nth l i).args) <| v0) c0 ?_
   refine L5 (b := 1) (i := i) (es := l.map Al) (e := 25) (sz := 5) (k := .i64) (s' := [(0, (.own 1)), (7, (.own 1)), (8, (.int .i64 (((l.map Al).length : Int)))), (9, (.int .i64 ((i : Int)))), (14, (.own 1)), (15, (.int .i64 ((i : Int)))), (18, (.row 5 ((nth l i).args).length (depAt ((nth l i).args)))), (19, (.op 1 (i * 5)))]) (by kernel_rfl) (by kernel_rfl) (by kernel_rfl) (by kernel_rfl) (by kernel_rfl) (by kernel_rfl) (by first | (rw [List.length_map]; omega) | simp_all) (by kernel_rfl) ?_
   refine Ua (b := 1) (o := i * 5) (off := 4) (s' := [(0, (.own 1)), (7, (.own 1)), (8, (.int .i64 (((l.map Al).length : Int)))), (9, (.int .i64 ((i : Int)))), (14, (.own 1)), (15, (.int .i64 ((i : Int)))), (18, (.row 5 ((nth l i).args).length (depAt ((nth l i).args)))), (19, (.op 1 (i * 5))), (20, (.op 1 (i * 5 + 4)))]) (by kernel_rfl) (by kernel_rfl) (by kernel_rfl) (by kernel_rfl) ?_
   refine Q22 (b := 1) (e := 25) (sz := 5) (es := l.map Al) (o := i * 5 + 4) (i := i) (j := 4) (a := (.agg [(.int .i64 ((nth l i).kind)), (.str ((nth l i).name)), (.int .i64 ((nth l i).op)), (.str ((nth l i).evr)), (.row 5 (nth l i).args.length (depAt (nth l i).args))])) (r := (.agg [(.int .i64 ((nth l i).kind)), (.str ((nth l i).name)), (.int .i64 ((nth l i).op)), (.str ((nth l i).evr)), (.row 5 ((nth l i).args).length (depAt ((nth l i).args)))])) (v := (.row 5 ((nth l i).args).length (depAt ((nth l i).args)))) (s' := [(0, (.own 1)), (7, (.own 1)), (8, (.int .i64 (((l.map Al).length : Int)))), (9, (.int .i64 ((i : Int)))), (14, (.own 1)), (15, (.int .i64 ((i : Int)))), (18, (.row 5 ((nth l i).args).length (depAt ((nth l i).args)))), (19, (.op 1 (i * 5))), (20, (.op 1 (i * 5 + 4)))]) (by kernel_rfl) (by kernel_rfl) rfl (by kernel_rfl) (by kernel_rfl) (Ll (l := l) Al (by omega)) (by kernel_rfl) (by kernel_rfl) ?_
   refine Bx ?_
   refine Ap ?_
   refine Av 0 [] [0, 7, 8, 9] [] hk0 v0 (cc 0 (p := (-9223372036854775808 ≤ (i : Int) + 1 ∧ (i : Int) + 1 ≤ 9223372036854775807)) (by omega) <| c0) ?_
   refine ⟨by kernel_rfl, _, ?_, i + 1, ?_, (Eq.trans (b := (⟨[(0, (.own 1)), (7, (.own 1)), (8, (.int .i64 (((l.map Al).length : Int)))), (9, (.int .i64 ((i : Int) + 1)))], [(1, (.grow ((l.map Al).set i (.agg [(.int .i64 ((nth l i).kind)), (.str ((nth l i).name)), (.int .i64 ((nth l i).op)), (.str ((nth l i).evr)), (.row 5 ((nth l i).args).length (depAt ((nth l i).args)))])) 25 5))], 2⟩ : St)) (by kernel_rfl) (congrArg (fun es => St.mk _ [(1, AO.grow es _ _)] _) (Q4q Al l i))), rfl⟩
   all_goals omega
  ·refine Br ?_
   refine Aa [] [2] ?_
   refine Ag ?_
   refine RK wR [(.row 5 (l.map Al).length (fun ix => (l.map Al).getD ix Bm))] ?_
   simp only [Ak]
   exact (Same.grown (f := Al) (l := l) rfl).trans (Pu l).same
theorem Q6c (l : List DepT) : argsSize l ≤ 4194304 → FnV Tryz.prog 113 [Dj l] (.row 5 l.length (depAt l)) := by
 have key : ∀ n (l : List DepT), argsSize l ≤ n → argsSize l ≤ 4194304 → FnV Tryz.prog 113 [Dj l] (.row 5 l.length (depAt l)) := by
  intro n
  induction n with
  | zero => exact fun l h hs => W2 l hs fun i hi => by have := Q12 hi; omega
  | succ n ih => exact fun l h hs => W2 l hs fun i hi => by have := Q12 hi; exact ih _ (by omega) (by omega)
 exact key _ l (Nat.le_refl _)
theorem Jw (l : List DepT) (hs : argsSize l ≤ 4194304) : FnV Tryz.prog 113 [Dj l] (Dj l) := (Q6c l hs).to (Ha l).same
theorem Q09 (p : PkgT) (hs : p.depSize ≤ 4194304) (hf : p.files.length ≤ 4611686018427) :
  FnV Tryz.prog 50 [(As p)] (As p) := by
 unfold PkgT.depSize at hs
 refine A4 [.cell 2 38] Tryz.func50 rfl Tryz.ntmps50 rfl rfl (fun B F hF => ?_)
 refine Aa [] [1, 2] ?_
 refine Ad ?_
 refine Ad ?_
 refine Ap ?_
 refine Jl [.tmp 2] (al := [(.ptr 0 0)]) (s0 := [(1, (.ptr 0 0)), (2, (.ptr 1 0))]) (by kernel_rfl) (by exact Q0v) (by kernel_rfl) Tryz.func112 rfl Tryz.ntmps112 rfl (by kernel_rfl) (by kernel_rfl) (fun F1 hF1 hle1 => ?_)
 refine Aa [] [0] ?_
 refine Cq [] [2] [] hk0 v0 c0 ?_
 refine Ag ?_
 refine Gp (.inl rfl) (al := [(.sl 2 0 7 7 false)]) (s' := [(1, (.ptr 0 0)), (2, (.ptr 1 0)), (5, (.sl 2 0 7 7 false))]) (by kernel_rfl) (by kernel_rfl) ?_
 refine Av 1 [] [1, 2, 5, 6, 7] [] hk0 v0 c0 ?_
 refine A1 ?_
 refine Qf 8 ?_
 refine Fc ?_
 refine Aa [] [1, 2, 5, 6, 7, 8] ?_
 refine Ad ?_
 refine Gh (by kernel_rfl) ?_
 refine Ai ?_
 refine Ad ?_
 refine A1 ?_
 refine Aa [] [1, 2, 4, 5, 6, 7] ?_
 refine Ap ?_
 refine Av 0 [] [1, 2, 5, 6, 7] [] (hk 4 I9 (Jw p.provides (by omega)) <| hk0) v0 c0 ?_
 refine Ap ?_
 refine Av 0 [] [1, 2, 5, 6, 7] [] hk0 v0 (cc 0 (p := (-9223372036854775808 ≤ (1 : Int) ∧ (1 : Int) ≤ 9223372036854775807)) (by omega) <| c0) ?_
 refine Fc ?_
 refine Aa [] [1, 2, 5, 6, 7, 8] ?_
 refine Ad ?_
 refine Gh (by kernel_rfl) ?_
 refine Ai ?_
 refine Ad ?_
 refine A1 ?_
 refine Aa [] [1, 2, 4, 5, 6, 7] ?_
 refine Ap ?_
 refine Av 0 [] [1, 2, 5, 6, 7] [] (hk 4 I9 (Jw p.requires (by omega)) <| hk0) v0 c0 ?_
 refine Ap ?_
 refine Av 0 [] [1, 2, 5, 6, 7] [] hk0 v0 (cc 0 (p := (-9223372036854775808 ≤ (2 : Int) ∧ (2 : Int) ≤ 9223372036854775807)) (by omega) <| c0) ?_
 refine Fc ?_
 refine Aa [] [1, 2, 5, 6, 7, 8] ?_
 refine Ad ?_
 refine Gh (by kernel_rfl) ?_
 refine Ai ?_
 refine Ad ?_
 refine A1 ?_
 refine Aa [] [1, 2, 4, 5, 6, 7] ?_
 refine Ap ?_
 refine Av 0 [] [1, 2, 5, 6, 7] [] (hk 4 I9 (Jw p.pre (by omega)) <| hk0) v0 c0 ?_
 refine Ap ?_
 refine Av 0 [] [1, 2, 5, 6, 7] [] hk0 v0 (cc 0 (p := (-9223372036854775808 ≤ (3 : Int) ∧ (3 : Int) ≤ 9223372036854775807)) (by omega) <| c0) ?_
 refine Fc ?_
 refine Aa [] [1, 2, 5, 6, 7, 8] ?_
 refine Ad ?_
 refine Gh (by kernel_rfl) ?_
 refine Ai ?_
 refine Ad ?_
 refine A1 ?_
 refine Aa [] [1, 2, 4, 5, 6, 7] ?_
 refine Ap ?_
 refine Av 0 [] [1, 2, 5, 6, 7] [] (hk 4 I9 (Jw p.conflicts (by omega)) <| hk0) v0 c0 ?_
 refine Ap ?_
 refine Av 0 [] [1, 2, 5, 6, 7] [] hk0 v0 (cc 0 (p := (-9223372036854775808 ≤ (4 : Int) ∧ (4 : Int) ≤ 9223372036854775807)) (by omega) <| c0) ?_
 refine Fc ?_
 refine Aa [] [1, 2, 5, 6, 7, 8] ?_
 refine Ad ?_
 refine Gh (by kernel_rfl) ?_
 refine Ai ?_
 refine Ad ?_
 refine A1 ?_
 refine Aa [] [1, 2, 4, 5, 6, 7] ?_
 refine Ap ?_
 refine Av 0 [] [1, 2, 5, 6, 7] [] (hk 4 I9 (Jw p.obsoletes (by omega)) <| hk0) v0 c0 ?_
 refine Ap ?_
 refine Av 0 [] [1, 2, 5, 6, 7] [] hk0 v0 (cc 0 (p := (-9223372036854775808 ≤ (5 : Int) ∧ (5 : Int) ≤ 9223372036854775807)) (by omega) <| c0) ?_
 refine Fc ?_
 refine Aa [] [1, 2, 5, 6, 7, 8] ?_
 refine Ad ?_
 refine Gh (by kernel_rfl) ?_
 refine Ai ?_
 refine Ad ?_
 refine A1 ?_
 refine Aa [] [1, 2, 4, 5, 6, 7] ?_
 refine Ap ?_
 refine Av 0 [] [1, 2, 5, 6, 7] [] (hk 4 I9 (Jw p.recommends (by omega)) <| hk0) v0 c0 ?_
 refine Ap ?_
 refine Av 0 [] [1, 2, 5, 6, 7] [] hk0 v0 (cc 0 (p := (-9223372036854775808 ≤ (6 : Int) ∧ (6 : Int) ≤ 9223372036854775807)) (by omega) <| c0) ?_
 refine Fc ?_
 refine Aa [] [1, 2, 5, 6, 7, 8] ?_
 refine Ad ?_
 refine Gh (by kernel_rfl) ?_
 refine Ai ?_
 refine Ad ?_
 refine A1 ?_
 refine Aa [] [1, 2, 4, 5, 6, 7] ?_
 refine Ap ?_
 refine Av 0 [] [1, 2, 5, 6, 7] [] (hk 4 I9 (Jw p.supplements (by omega)) <| hk0) v0 c0 ?_
 refine Ap ?_
 refine Av 0 [] [1, 2, 5, 6, 7] [] hk0 v0 (cc 0 (p := (-9223372036854775808 ≤ (7 : Int) ∧ (7 : Int) ≤ 9223372036854775807)) (by omega) <| c0) ?_
 refine Fc ?_
 refine Aa [] [1, 2, 5, 6, 7, 8] ?_
 refine Ad ?_
 refine Ei (by kernel_rfl) ?_
 refine Br ?_
 refine Ah [] [1, 2] [] (hk 2 X1f (X2c p.files hf) <| hk0) v0 c0 ?_
 refine Aa [] [2] ?_
 refine Ag ?_
 refine RK wR [(As p)] ?_
 exact Same.of_eq rfl
end Sv
end Go.Proofs.YtlmloohlmlahfaaGreatDoor
end
section
namespace Go.Proofs.YtlmloohlmlahfaaGreatDoor
open Go Go.RowKit
set_option linter.unusedSimpArgs false
set_option linter.unusedVariables false
namespace Sv
theorem Yz {l : List UInt8} {p : Nat → Bool} (hp : ∀ r, 128 ≤ r → p r = true) : ∀ (fuel pos : Nat), l.length ≤ pos + fuel → decide (Lib.idxFuncFrom p true ⟨l.toArray⟩ fuel pos < 0) = (l.drop pos).all (fun b => !p b.toNat)
  | 0, pos, h => by
    rw [List.drop_of_length_le (by omega)]; rfl
  | fuel + 1, pos, h => by
    have hsz : (⟨l.toArray⟩ : ByteArray).size = l.length := Gx l
    by_cases hpos : pos < l.length
    · have hdrop : l.drop pos = Aq l pos :: l.drop (pos + 1) := by
        rw [List.drop_eq_getElem_cons hpos, Jd hpos]
      rw [hdrop, List.all_cons]
      simp only [Lib.idxFuncFrom, hsz, hpos, if_true]
      by_cases ha : (Aq l pos).toNat < 128
      · rw [X1y hpos ha]
        simp only
        cases hc : p (Aq l pos).toNat with
        | true => simp
        | false =>
          have := Yz (l := l) hp fuel (pos + 1) (by omega)
          simpa using this
      · have hh := X1x hpos (by omega)
        have h1 := hp _ hh.1
        have h2 := hp (Aq l pos).toNat (by omega)
        rw [h1, h2]; simp
    · rw [List.drop_of_length_le (by omega)]
      have : ¬ pos < (⟨l.toArray⟩ : ByteArray).size := by rw [hsz]; exact hpos
      simp [Lib.idxFuncFrom, this]
theorem Q8r {l : List UInt8} {p : Nat → Bool} (hp : ∀ r, 128 ≤ r → p r = true) : decide (Lib.idxFunc p true ⟨l.toArray⟩ < 0) = l.all (fun b => !p b.toNat) := by
  have := Yz (l := l) hp l.length 0 (by omega)
  rw [List.drop_zero] at this
  rw [← this]
  unfold Lib.idxFunc
  rw [show (⟨l.toArray⟩ : ByteArray).size = l.length from Gx l]
theorem X47 (s : List UInt8) (g : Nat) (cap : List AV) (p : Nat → Bool) (he : Au Tryz.prog g) (hc : frzl cap = true) (h : ∀ x : Nat, x ≤ 1114111 → FnV Tryz.prog g (.int .i32 x :: cap) (.bool (p x))) :
    FnV Tryz.prog 105 [.str s, .fn g [] cap] (.int .i64 (Lib.idxFunc p true ⟨s.toArray⟩)) := by
  intro F w vs hF hv
  obtain ⟨v, r1, rfl, h1, hv⟩ := hv.cons_inv
  obtain ⟨v2, rfl, h2⟩ := hv.single_inv
  simp only [VR] at h1 h2
  subst h1
  obtain ⟨vf, vc, q1, q2, rfl⟩ := h2
  rw [q1.nil_inv]
  refine (Tryz.strings_IndexFunc_grows g vc.toArray (fun args w => he args w) p ⟨s.toArray⟩ w ?_).mono ?_
  · intro W x hx hb
    have hF' : Fro F W := fun b o e => (hb.block b (Ez (hF b o e))).trans (hF b o e)
    have key : Calls Tryz.prog g (Value.int .i32 x :: vc).toArray W (fun e w' => e = .returned (.bool (p x)) ∧ Below W.heap.size W w') := by
      refine (h x hx F W (.int .i32 x :: vc) hF' (.cons (by simp only [VR]) q2)).mono ?_
      rintro e w' ⟨v, he, hb', F', _, _, _, hr⟩
      simp only [VR] at hr; subst hr
      exact ⟨he, hb'⟩
    have e : (#[Proofs.encR x] ++ vc.toArray) = (Value.int .i32 x :: vc).toArray := by apply Array.ext'; simp [Proofs.encR]
    rw [e]; exact key
  · rintro e w' ⟨he, hb⟩
    exact ⟨_, he, hb, F, fun _ _ e => e, fun b o e => (hb.block b (Ez (hF b o e))).trans (hF b o e), fun _ _ e => .inl e, by simp only [VR]⟩
theorem Ny (s : List UInt8) (c : UInt8) (hl : s.length ≤ 9223372036854775807) : FnV Tryz.prog 111 [.str s, .str [c]] (.bool (Bj s c)) := by
  intro F w vs hF hv
  obtain ⟨v, r1, rfl, h1, hv⟩ := hv.cons_inv
  obtain ⟨v2, rfl, h2⟩ := hv.single_inv
  simp only [VR] at h1 h2
  subst h1 h2
  refine (X5b s c w hl).mono ?_
  rintro e w' ⟨v, he, rfl, rfl⟩
  exact ⟨_, he, Below.refl _ _, F, fun _ _ e => e, hF, fun _ _ e => .inl e, by simp only [VR]⟩
theorem Q7g {l : List UInt8} (h : Bp l = true) : 0 < l.length := by
  cases l with
  | nil => exact absurd h (by decide)
  | cons a r => simp
theorem X27 {α : Type} {l : List α} (p : α → Bool) : (l.any fun x => !p x) = !l.all p := by
  induction l with
  | nil => rfl
  | cons a r ih => simp only [List.any_cons, List.all_cons, ih, Bool.not_and]
end Sv
end Go.Proofs.YtlmloohlmlahfaaGreatDoor
end
section
namespace Go.Proofs.YtlmloohlmlahfaaGreatDoor
open Go Go.RowKit
namespace Sv
attribute [local irreducible] SW SO Bn
set_option maxHeartbeats 1000000
set_option maxRecDepth 100000
end Sv
end Go.Proofs.YtlmloohlmlahfaaGreatDoor
end
section
namespace Go.Proofs.YtlmloohlmlahfaaGreatDoor
open Go Go.RowKit
namespace Sv
attribute [local irreducible] SW SO Bn
set_option maxHeartbeats 400000
set_option maxRecDepth 100000
end Sv
end Go.Proofs.YtlmloohlmlahfaaGreatDoor
end
section
namespace Go.Proofs.YtlmloohlmlahfaaGreatDoor
open Go Go.RowKit
set_option linter.unusedSimpArgs false
set_option linter.unusedVariables false
namespace Sv
set_option maxHeartbeats 400000
set_option maxRecDepth 100000
section
variable {P : Program} {ds : List Deferred}
variable {B : Bas} {F : Cx} {n : Nat} {K : Exit → St → Prop} {x : St}
def SWD (P : Program) (ds : List Deferred) (n : Nat) (c : Code) (B : Bas) (F : Cx) (K : Exit → St → Prop) (x : St) : Prop := ∀ φ σ w, Holds B F n x φ σ w → D.W P ds n c (Lx B F n K) σ w
end
attribute [local irreducible] SW SO SWD Bn
end Sv
end Go.Proofs.YtlmloohlmlahfaaGreatDoor
end
section
namespace Go.Proofs.YtlmloohlmlahfaaGreatDoor
open Go Go.RowKit
namespace Sv
attribute [local irreducible] SW SO Bn
set_option maxHeartbeats 1000000
set_option maxRecDepth 100000
theorem X0n : Au Tryz.prog 167 := Ay Tryz.func167 (by kernel_rfl) rfl
theorem X1i : Au Tryz.prog 109 := Ay Tryz.func109 (by kernel_rfl) rfl
theorem Q0l : Au Tryz.prog 168 := Ay Tryz.func168 (by kernel_rfl) rfl
theorem Lv : Au Tryz.prog 111 := Ay Tryz.func111 (by kernel_rfl) rfl
theorem X1l : Au Tryz.prog 105 := Ay Tryz.func105 (by kernel_rfl) rfl
theorem Nh : Au Tryz.prog 45 := Ay Tryz.func45 (by kernel_rfl) rfl
theorem Nf : Au Tryz.prog 96 := Ay Tryz.func96 (by kernel_rfl) rfl
theorem Ni : Au Tryz.prog 107 := Ay Tryz.func107 (by kernel_rfl) rfl
theorem S9 : Au Tryz.prog 153 := Ay Tryz.func153 (by kernel_rfl) rfl
theorem Sy : Au Tryz.prog 95 := Ay Tryz.func95 (by kernel_rfl) rfl
theorem Z4 : Au Tryz.prog 51 := Ay Tryz.func51 (by kernel_rfl) rfl
theorem X1j : Au Tryz.prog 108 := Ay Tryz.func108 (by kernel_rfl) rfl
theorem Q90 : Au Tryz.prog 49 := Ay Tryz.func49 (by kernel_rfl) rfl
theorem X1n : Au Tryz.prog 102 := Ay Tryz.func102 (by kernel_rfl) rfl
theorem X1m : Au Tryz.prog 103 := Ay Tryz.func103 (by kernel_rfl) rfl
theorem Q0w : Au Tryz.prog 104 := Ay Tryz.func104 (by kernel_rfl) rfl
theorem X1k : Au Tryz.prog 106 := Ay Tryz.func106 (by kernel_rfl) rfl
theorem X1g : Au Tryz.prog 110 := Ay Tryz.func110 (by kernel_rfl) rfl
theorem X0w : Au Tryz.prog 154 := Ay Tryz.func154 (by kernel_rfl) rfl
theorem X0v : Au Tryz.prog 155 := Ay Tryz.func155 (by kernel_rfl) rfl
theorem X0g : Au Tryz.prog 194 := Ay Tryz.func194 (by kernel_rfl) rfl
theorem X0u : Au Tryz.prog 156 := Ay Tryz.func156 (by kernel_rfl) rfl
theorem X0t : Au Tryz.prog 157 := Ay Tryz.func157 (by kernel_rfl) rfl
theorem Q9q : Au Tryz.prog 97 := Ay Tryz.func97 (by kernel_rfl) rfl
theorem Q36 (l : List (List UInt8)) (a : AV) (p : (List UInt8) → Bool) (hl : l.length ≤ 4611686018427387904) (ha : ∀ i, i < l.length → FunV Tryz.prog a [(.str (nth l i))] (.bool (p (nth l i)))) :
  FnV Tryz.prog 167 [(C3 l), (.clo a)] (.int .i64 (Bz p l)) := by
 refine A4 [.tmp 4] Tryz.func167 rfl Tryz.ntmps167 rfl rfl (fun B F hF => ?_)
 refine Aa [] [0, 1] ?_
 refine Ad ?_
 refine Aa [] [0, 1, 7, 8] ?_
 refine A1 ?_
 refine Bv (fun g y => ∃ (i : Nat), i ≤ l.length ∧ (∀ j, j < i → p (nth l j) = false) ∧ y = ⟨[(0, (C3 l)), (1, (.clo a)), (7, (.int .i64 ((l.length : Int)))), (8, (.int .i64 ((i : Int))))], [], 0⟩ ∧ g = l.length - i) [0, 1, 7, 8] 0 _ (by omega) ⟨0, (by omega), (by exact fun j hj => by omega), (by kernel_rfl), rfl⟩ ?_
 rintro g1 y1 ⟨i, f1_1, f1_2, rfl, rfl⟩
 refine Aa [] [0, 1, 7, 8, 9] ?_
 refine Ad ?_
 refine A6 (p := (i : Int) < (l.length : Int)) (by kernel_rfl) (fun c1 => ?_) (fun c1 => ?_)
 ·refine Ai ?_
  refine Ad ?_
  refine A1 ?_
  refine Aa [] [0, 1, 5, 7, 8] ?_
  refine Ad ?_
  refine Ap ?_
  refine Bq 5 0 [] [0, 1, 5, 7, 8, 11, 15] [] hk0 v0 (cc 3 (p := (0 ≤ (i : Int) ∧ i < l.length)) (by omega) <| c0) ?_
  refine Fd (s' := [(0, (C3 l)), (1, (.clo a)), (5, (.int .i64 ((i : Int)))), (7, (.int .i64 ((l.length : Int)))), (8, (.int .i64 ((i : Int)))), (11, (.clo a)), (15, (.str (nth l i))), (16, (.bool (p (nth l i))))]) (a := (.clo a)) (al := [(.str (nth l i))]) (r := (.bool (p (nth l i)))) (by kernel_rfl) (by kernel_rfl) (by kernel_rfl) (by kernel_rfl) (by kernel_rfl) ((ha i (by omega)).clo) (by kernel_rfl) ?_
  refine Bx ?_
  refine Bd (q := p (nth l i)) (by kernel_rfl) (fun c2 => ?_) (fun c2 => ?_)
  ·try simp only [Ao] at c2
   refine Aa [] [4] ?_
   refine Ag ?_
   refine RK wR [(.int .i64 ((i : Int)))] ?_
   exact Same.of_eq (by rw [J6 (by omega) f1_2 (by simp_all)]; rfl)
  ·try simp only [Ao] at c2
   refine Ai ?_
   refine Ap ?_
   refine Av 0 [] [0, 1, 7, 8] [] hk0 v0 (cc 0 (p := (-9223372036854775808 ≤ (i : Int) + 1 ∧ (i : Int) + 1 ≤ 9223372036854775807)) (by omega) <| c0) ?_
   refine ⟨by kernel_rfl, _, ?_, i + 1, ?_, ?_, (by kernel_rfl), rfl⟩
   ·omega
   ·omega
   ·intro j hj
    by_cases h : j = i
    ·subst h; simp_all
    ·exact f1_2 j (by omega)
 ·refine Br ?_
  refine Aa [] [4] ?_
  refine Ag ?_
  refine RK wR [(.int .i64 (-1))] ?_
  exact Same.of_eq (by rw [J5 (fun j hj => f1_2 j (by omega))]; rfl)
theorem Q37 (l : List (List UInt8)) (a : AV) (p : (List UInt8) → Bool) (hl : l.length ≤ 4611686018427387904) (ha : ∀ i, i < l.length → FunV Tryz.prog a [(.str (nth l i))] (.bool (p (nth l i)))) :
  FnV Tryz.prog 109 [(C3 l), (.clo a)] (.bool (l.any p)) := by
 refine A4 [.tmp 4] Tryz.func109 rfl Tryz.ntmps109 rfl rfl (fun B F hF => ?_)
 refine Aa [] [0, 1] ?_
 refine Ah [] [4] [] (hk 2 X0n (Q36 l a p hl ha) <| hk0) v0 c0 ?_
 refine Ag ?_
 refine RK wR [(.bool (decide (0 ≤ (Bz p l))))] ?_
 exact Same.of_eq (by simp only [Ak]; rw [J7])
def F9 (i : Nat) (d : DepT) : Bool := decide (Cp d = 0) && ((!(i == 0 || i == 4)) || decide (d.kind = 1)) && ((!(i == 0)) || decide (d.op = 0) || decide (d.op = 2))
def Dx (i : Nat) (l : List DepT) : Bool := decide (l.length ≤ 16) && l.all (F9 i)
def Fq (p : PkgT) : Bool := Dx 0 p.provides && Dx 1 p.requires && Dx 2 p.pre && Dx 3 p.conflicts && Dx 4 p.obsoletes && Dx 5 p.recommends && Dx 6 p.supplements
theorem all_nth {α : Type} [Inhabited α] {p : α → Bool} {l : List α} : l.all p = true ↔ ∀ j, j < l.length → p (nth l j) = true := by
 constructor
 ·intro h j hj
  rw [show nth l j = l[j] by simp [nth, hj]]; exact List.all_eq_true.1 h _ (List.getElem_mem hj)
 ·intro h
  refine List.all_eq_true.2 fun x hx => ?_
  obtain ⟨j, hj, rfl⟩ := List.getElem_of_mem hx
  have := h j hj
  rwa [show nth l j = l[j] by simp [nth, hj]] at this
theorem Yh {i : Nat} {l : List DepT} {k : Nat} (h : l.length ≤ 16) (hk : l.length ≤ k) (h2 : ∀ j, j < k → F9 i (nth l j) = true) : Dx i l = true := by
 unfold Dx
 rw [all_nth.2 fun j hj => h2 j (by omega), decide_eq_true h]; rfl
def PkgT.list (p : PkgT) : Nat → List DepT
 | 0 => p.provides
 | 1 => p.requires
 | 2 => p.pre
 | 3 => p.conflicts
 | 4 => p.obsoletes
 | 5 => p.recommends
 | _ => p.supplements
theorem Q01 {p : PkgT} (i : Nat) (hi : i < 7) (h : Dx i (PkgT.list p i) = false) : Fq p = false := by
 have : i = 0 ∨ i = 1 ∨ i = 2 ∨ i = 3 ∨ i = 4 ∨ i = 5 ∨ i = 6 := by omega
 rcases this with rfl | rfl | rfl | rfl | rfl | rfl | rfl <;> (unfold Fq; simp only [PkgT.list] at h; simp [h])
theorem Q02 {p : PkgT} (i : Nat) (hi : i < 7) (h : 16 < (PkgT.list p i).length) : Fq p = false := Q01 i hi (by unfold Dx; rw [decide_eq_false (by omega)]; rfl)
theorem Pv {p : PkgT} (i : Nat) {j : Nat} (hi : i < 7) (hj : j < (PkgT.list p i).length) (h : F9 i (nth (PkgT.list p i) j) = false) : Fq p = false := Q01 i hi (by
 unfold Dx
 have : (PkgT.list p i).all (F9 i) = false := by
  cases hq : (PkgT.list p i).all (F9 i) with
  | false => rfl
  | true => rw [all_nth.1 hq j hj] at h; cases h
 rw [this, Bool.and_false])
theorem X1t {p : PkgT} (h0 : Dx 0 p.provides = true) (h1 : Dx 1 p.requires = true) (h2 : Dx 2 p.pre = true) (h3 : Dx 3 p.conflicts = true) (h4 : Dx 4 p.obsoletes = true) (h5 : Dx 5 p.recommends = true) (h6 : Dx 6 p.supplements = true) : Fq p = true := by
 unfold Fq; rw [h0, h1, h2, h3, h4, h5, h6]; rfl
theorem Oa {i : Nat} (h : i < 7) : i = 0 ∨ i = 1 ∨ i = 2 ∨ i = 3 ∨ i = 4 ∨ i = 5 ∨ i = 6 := by omega
theorem Q03 {p : PkgT} (h : ∀ j, j < 7 → Dx j (PkgT.list p j) = true) : Fq p = true := X1t (h 0 (by omega)) (h 1 (by omega)) (h 2 (by omega)) (h 3 (by omega)) (h 4 (by omega)) (h 5 (by omega)) (h 6 (by omega))
theorem Yf {p : PkgT} (h : p.depSize ≤ 4194304) {i k : Nat} (hi : i < 7) (hk : k < (PkgT.list p i).length) : (nth (PkgT.list p i) k).size ≤ 4194304 := by
 have h1 := Kh hk
 unfold PkgT.depSize at h
 rcases Oa hi with rfl | rfl | rfl | rfl | rfl | rfl | rfl <;> (simp only [PkgT.list] at h1 ⊢; omega)
theorem Yg {p : PkgT} (h : p.depSize ≤ 4194304) {i : Nat} (hi : i < 7) : (PkgT.list p i).length ≤ 4194304 := by
 unfold PkgT.depSize at h
 have h0 := Dr p.provides
 have h1 := Dr p.requires
 have h2 := Dr p.pre
 have h3 := Dr p.conflicts
 have h4 := Dr p.obsoletes
 have h5 := Dr p.recommends
 have h6 := Dr p.supplements
 rcases Oa hi with rfl | rfl | rfl | rfl | rfl | rfl | rfl <;> (simp only [PkgT.list]; omega)
theorem Q74 (p : PkgT) :
  FnV Tryz.prog 112 [(.fp (As p))] (.row 1 7 (fun i => .fp (Ac 5 Al (PkgT.list p i)))) := by
 refine A4 [.tmp 2] Tryz.func112 rfl Tryz.ntmps112 rfl rfl (fun B F hF => ?_)
 refine Aa [] [0] ?_
 refine Cq [] [2] [] hk0 v0 c0 ?_
 refine Ag ?_
 refine RK wR [(.row 1 7 (fun ix => (Em 1 7 [(.fp (Ac 5 Al p.provides)), (.fp (Ac 5 Al p.requires)), (.fp (Ac 5 Al p.pre)), (.fp (Ac 5 Al p.conflicts)), (.fp (Ac 5 Al p.obsoletes)), (.fp (Ac 5 Al p.recommends)), (.fp (Ac 5 Al p.supplements))]).getD ix Bm))] ?_
 simp only [Ak]
 exact (Imp.row fun i hi => Imp.of_eq (by rcases Oa hi with rfl | rfl | rfl | rfl | rfl | rfl | rfl <;> rfl)).same
theorem Q5k (p : PkgT) :
  FnV Tryz.prog 194 [(As p)] (.row 1 7 (fun i => Ac 5 Al (PkgT.list p i))) := by
 refine A4 [.tmp 2] Tryz.func194 rfl Tryz.ntmps194 rfl rfl (fun B F hF => ?_)
 refine Ah [] [1] [(1, 1)] hk0 v0 c0 ?_
 refine Aa [] [2] ?_
 refine Ag ?_
 refine RK wR [(.row 1 7 (fun ix => (Em 1 7 [(Ac 5 Al p.provides), (Ac 5 Al p.requires), (Ac 5 Al p.pre), (Ac 5 Al p.conflicts), (Ac 5 Al p.obsoletes), (Ac 5 Al p.recommends), (Ac 5 Al p.supplements)]).getD ix Bm))] ?_
 simp only [Ak]
 exact (Imp.row fun i hi => Imp.of_eq (by rcases Oa hi with rfl | rfl | rfl | rfl | rfl | rfl | rfl <;> rfl)).same
theorem X1s (p : PkgT) (hs : p.depSize ≤ 4194304) :
  FnV Tryz.prog 108 [(As p)] (.bool (Fq p)) := by
 refine A4 [.tmp 2] Tryz.func108 rfl Tryz.ntmps108 rfl rfl (fun B F hF => ?_)
 refine Ah [] [1] [(1, 1)] hk0 v0 c0 ?_
 refine Ad ?_
 refine Ah [] [8, 9, 10] [] (hk 0 Q0v (Q74 p) <| hk0) v0 c0 ?_
 refine A1 ?_
 refine Bv (fun g y => ∃ (i : Nat), i ≤ 7 ∧ (∀ j, j < i → Dx j (PkgT.list p j) = true) ∧ y = ⟨[(8, (.row 1 7 (fun i => .fp (Ac 5 Al (PkgT.list p i))))), (9, (.int .i64 7)), (10, (.int .i64 ((i : Int))))], [], 1⟩ ∧ g = 7 - i) [8, 9, 10] 1 _ (by omega) ⟨0, (by omega), (by exact fun j hj => by omega), (by kernel_rfl), rfl⟩ ?_
 rintro g1 y1 ⟨i, f1_1, f1_2, rfl, rfl⟩
 refine Aa [] [8, 9, 10, 11] ?_
 refine Ad ?_
 refine A6 (p := (i : Int) < 7) (by kernel_rfl) (fun c1 => ?_) (fun c1 => ?_)
 ·have hi0 : ((i : Int) = 0) = (i = 0) := by rw [eq_iff_iff]; omega
  have hi4 : ((i : Int) = 4) = (i = 4) := by rw [eq_iff_iff]; omega
  have hll := Yg hs (i := i) (by omega)
  refine Ai ?_
  refine Ad ?_
  refine A1 ?_
  refine Ah [] [3, 4, 8, 9, 10] [] hk0 v0 (cc 1 (p := (0 ≤ (i : Int) ∧ i < 7)) (by omega) <| c0) ?_
  refine Ad ?_
  refine Aa [] [3, 4, 8, 9, 10, 19] ?_
  refine A6 (p := 16 < ((PkgT.list p i).length : Int)) (by kernel_rfl) (fun c2 => ?_) (fun c2 => ?_)
  ·refine Aa [] [2] ?_
   refine Ag ?_
   refine RK wR [(.bool false)] ?_
   exact Same.of_eq (by rw [Q02 i (by omega) (by omega)]; rfl)
  ·refine Ai ?_
   refine Aa [] [3, 8, 9, 10, 22, 23, 24] ?_
   refine A1 ?_
   refine Bv (fun g y => ∃ (k : Nat), k ≤ (PkgT.list p i).length ∧ (∀ j, j < k → F9 i (nth (PkgT.list p i) j) = true) ∧ y = ⟨[(3, (.int .i64 ((i : Int)))), (8, (.row 1 7 (fun i => .fp (Ac 5 Al (PkgT.list p i))))), (9, (.int .i64 7)), (10, (.int .i64 ((i : Int)))), (22, (Ac 5 Al (PkgT.list p i))), (23, (.int .i64 (((PkgT.list p i).length : Int)))), (24, (.int .i64 ((k : Int))))], [], 1⟩ ∧ g = (PkgT.list p i).length - k) [3, 8, 9, 10, 22, 23, 24] 1 _ (by omega) ⟨0, (by omega), (by exact fun j hj => by omega), (by kernel_rfl), rfl⟩ ?_
   rintro g2 y2 ⟨k, f2_1, f2_2, rfl, rfl⟩
   refine Aa [] [3, 8, 9, 10, 22, 23, 24, 25] ?_
   refine Ad ?_
   refine A6 (p := (k : Int) < ((PkgT.list p i).length : Int)) (by kernel_rfl) (fun c3 => ?_) (fun c3 => ?_)
   ·refine Ai ?_
    refine Ad ?_
    refine A1 ?_
    refine Ah [] [3, 6, 8, 9, 10, 22, 23, 24] [] hk0 v0 (cc 0 (p := (0 ≤ (k : Int) ∧ k < (PkgT.list p i).length)) (by omega) <| c0) ?_
    obtain ⟨b1, hb1⟩ : ∃ b, b = (!decide ((i : Int) = 0)) := ⟨_, rfl⟩
    obtain ⟨b2, hb2⟩ : ∃ b, b = (b1 && (!decide ((i : Int) = 4))) := ⟨_, rfl⟩
    obtain ⟨b3, hb3⟩ : ∃ b, b = (b2 || (decide (((nth (PkgT.list p i) k).kind) = 1))) := ⟨_, rfl⟩
    have qh1 : ((b1 = true → b1 = true)) ∧ ((b1 = true → b1 = true)) ∧ (((!b2) = true → (!b2) = true)) ∧ (((!b2) = true → (!b2) = true)) ∧ ((b2 = false → (!b2) = true)) := by
     first | omega | (simp; done) | (by_cases a1 : Cp (nth (PkgT.list p i) k) = 0 <;> by_cases a2 : DepT.kind (nth (PkgT.list p i) k) = 1 <;> by_cases a3 : DepT.op (nth (PkgT.list p i) k) = 0 <;> by_cases a4 : DepT.op (nth (PkgT.list p i) k) = 2 <;> by_cases b0 : i = 0 <;> by_cases b4 : i = 4 <;> simp_all)
    refine Ah [31, 32, 35, 36, 37] [3, 6, 7, 8, 9, 10, 22, 23, 24] [(0, 6)] hk0 (vk 3 30 (a := .bool (!decide ((i : Int) = 0))) (b := .bool b1) (Imp.of_eq (by rw [hb1])) <| vk 7 34 (a := .bool (b1 && (!decide ((i : Int) = 4)))) (b := .bool b2) (Imp.of_eq (by rw [hb2])) <| vk 11 38 (a := .bool (b2 || (decide (((nth (PkgT.list p i) k).kind) = 1)))) (b := .bool b3) (Imp.of_eq (by rw [hb3])) <| v0) (cc 4 (p := (b1 = true → b1 = true)) qh1.1 <| cc 5 (p := (b1 = true → b1 = true)) qh1.2.1 <| cc 8 (p := ((!b2) = true → (!b2) = true)) qh1.2.2.1 <| cc 9 (p := ((!b2) = true → (!b2) = true)) qh1.2.2.2.1 <| cc 10 (p := (b2 = false → (!b2) = true)) qh1.2.2.2.2 <| c0) ?_
    obtain ⟨b4, hb4⟩ : ∃ b, b = ((!b3) || (!decide ((Cp (nth (PkgT.list p i) k)) = 0))) := ⟨_, rfl⟩
    have qh2 : (((!(!b3)) = true → (!(!b3)) = true)) ∧ (((!b3) = false → (!(!b3)) = true)) ∧ (((!b4) = true → (!b4) = true)) ∧ (((!b4) = true → (!b4) = true)) ∧ ((((!b4) && (decide ((i : Int) = 0))) = true → ((!b4) && (decide ((i : Int) = 0))) = true)) ∧ ((((!b4) && (decide ((i : Int) = 0))) = true → ((!b4) && (decide ((i : Int) = 0))) = true)) ∧ (((!b4) = true → ((!b4) = true) ∧ ((decide ((i : Int) = 0)) = true → ((!b4) && (decide ((i : Int) = 0))) = true))) ∧ (((!b4) = true → (!b4) = true)) ∧ ((((!b4) && ((decide ((i : Int) = 0)) && (!decide (((nth (PkgT.list p i) k).op) = 0)))) = true → ((!b4) && ((decide ((i : Int) = 0)) && (!decide (((nth (PkgT.list p i) k).op) = 0)))) = true)) ∧ ((((!b4) && ((decide ((i : Int) = 0)) && (!decide (((nth (PkgT.list p i) k).op) = 0)))) = true → ((!b4) && ((decide ((i : Int) = 0)) && (!decide (((nth (PkgT.list p i) k).op) = 0)))) = true)) ∧ (((!b4) = true → ((!b4) = true) ∧ (((decide ((i : Int) = 0)) && (!decide (((nth (PkgT.list p i) k).op) = 0))) = true → ((!b4) && ((decide ((i : Int) = 0)) && (!decide (((nth (PkgT.list p i) k).op) = 0)))) = true))) ∧ ((b4 = false → (!b4) = true)) := by
     first | omega | (simp; done) | (by_cases a1 : Cp (nth (PkgT.list p i) k) = 0 <;> by_cases a2 : DepT.kind (nth (PkgT.list p i) k) = 1 <;> by_cases a3 : DepT.op (nth (PkgT.list p i) k) = 0 <;> by_cases a4 : DepT.op (nth (PkgT.list p i) k) = 2 <;> by_cases b0 : i = 0 <;> by_cases b4 : i = 4 <;> simp_all)
    refine Ah [42, 44, 47, 48, 49, 50, 51, 52, 53, 54, 55, 56, 57, 58] [3, 8, 9, 10, 22, 23, 24, 59] [] (hkg 4 (!(!b3)) Sy (fun cg => Q3l (nth (PkgT.list p i) k) (Yf hs (by omega) (by omega))) <| hk0) (vk 7 45 (a := .bool ((!b3) || (!decide ((Cp (nth (PkgT.list p i) k)) = 0)))) (b := .bool b4) (Imp.of_eq (by rw [hb4])) <| v0) (cc 4 (p := (!(!b3)) = true → (!(!b3)) = true) (by simp) <| cc 5 (p := ((!(!b3)) = true → (!(!b3)) = true)) qh2.1 <| cc 6 (p := ((!b3) = false → (!(!b3)) = true)) qh2.2.1 <| cc 9 (p := ((!b4) = true → (!b4) = true)) qh2.2.2.1 <| cc 10 (p := ((!b4) = true → (!b4) = true)) qh2.2.2.2.1 <| cc 12 (p := (((!b4) && (decide ((i : Int) = 0))) = true → ((!b4) && (decide ((i : Int) = 0))) = true)) qh2.2.2.2.2.1 <| cc 13 (p := (((!b4) && (decide ((i : Int) = 0))) = true → ((!b4) && (decide ((i : Int) = 0))) = true)) qh2.2.2.2.2.2.1 <| cc 14 (p := ((!b4) = true → ((!b4) = true) ∧ ((decide ((i : Int) = 0)) = true → ((!b4) && (decide ((i : Int) = 0))) = true))) qh2.2.2.2.2.2.2.1 <| cc 15 (p := ((!b4) = true → (!b4) = true)) qh2.2.2.2.2.2.2.2.1 <| cc 17 (p := (((!b4) && ((decide ((i : Int) = 0)) && (!decide (((nth (PkgT.list p i) k).op) = 0)))) = true → ((!b4) && ((decide ((i : Int) = 0)) && (!decide (((nth (PkgT.list p i) k).op) = 0)))) = true)) qh2.2.2.2.2.2.2.2.2.1 <| cc 18 (p := (((!b4) && ((decide ((i : Int) = 0)) && (!decide (((nth (PkgT.list p i) k).op) = 0)))) = true → ((!b4) && ((decide ((i : Int) = 0)) && (!decide (((nth (PkgT.list p i) k).op) = 0)))) = true)) qh2.2.2.2.2.2.2.2.2.2.1 <| cc 19 (p := ((!b4) = true → ((!b4) = true) ∧ (((decide ((i : Int) = 0)) && (!decide (((nth (PkgT.list p i) k).op) = 0))) = true → ((!b4) && ((decide ((i : Int) = 0)) && (!decide (((nth (PkgT.list p i) k).op) = 0)))) = true))) qh2.2.2.2.2.2.2.2.2.2.2.1 <| cc 20 (p := (b4 = false → (!b4) = true)) qh2.2.2.2.2.2.2.2.2.2.2.2 <| c0) ?_
    refine Bd (q := b4 || (((decide ((i : Int) = 0)) && (!decide (((nth (PkgT.list p i) k).op) = 0))) && (!decide (((nth (PkgT.list p i) k).op) = 2)))) (by kernel_rfl) (fun c4 => ?_) (fun c4 => ?_)
    ·subst hb4 hb3 hb2 hb1
     try simp only [Ao] at c4
     refine Aa [] [2] ?_
     refine Ag ?_
     refine RK wR [(.bool false)] ?_
     exact Same.of_eq (by rw [Pv i (j := k) (by omega) (by omega) (by unfold F9; by_cases a1 : Cp (nth (PkgT.list p i) k) = 0 <;> by_cases a2 : DepT.kind (nth (PkgT.list p i) k) = 1 <;> by_cases a3 : DepT.op (nth (PkgT.list p i) k) = 0 <;> by_cases a4 : DepT.op (nth (PkgT.list p i) k) = 2 <;> by_cases b0 : i = 0 <;> by_cases b4 : i = 4 <;> simp_all)]; rfl)
    ·subst hb4 hb3 hb2 hb1
     try simp only [Ao] at c4
     refine Ai ?_
     refine Ap ?_
     refine Av 0 [] [3, 8, 9, 10, 22, 23, 24] [] hk0 v0 (cc 0 (p := (-9223372036854775808 ≤ (k : Int) + 1 ∧ (k : Int) + 1 ≤ 9223372036854775807)) (by omega) <| c0) ?_
     refine ⟨by kernel_rfl, _, ?_, k + 1, ?_, ?_, (by kernel_rfl), rfl⟩
     ·omega
     ·omega
     ·intro j hj
      by_cases h : j = k
      ·subst h; unfold F9; by_cases a1 : Cp (nth (PkgT.list p i) j) = 0 <;> by_cases a2 : DepT.kind (nth (PkgT.list p i) j) = 1 <;> by_cases a3 : DepT.op (nth (PkgT.list p i) j) = 0 <;> by_cases a4 : DepT.op (nth (PkgT.list p i) j) = 2 <;> by_cases b0 : i = 0 <;> by_cases b4 : i = 4 <;> simp_all
      ·exact f2_2 j (by omega)
   ·refine Br ?_
    refine Ap ?_
    refine Av 0 [] [8, 9, 10] [] hk0 v0 (cc 0 (p := (-9223372036854775808 ≤ (i : Int) + 1 ∧ (i : Int) + 1 ≤ 9223372036854775807)) (by omega) <| c0) ?_
    refine ⟨by kernel_rfl, _, ?_, i + 1, ?_, ?_, (by kernel_rfl), rfl⟩
    ·omega
    ·omega
    ·intro j hj
     by_cases h : j = i
     ·subst h; exact Yh (k := k) (by omega) (by omega) f2_2
     ·exact f1_2 j (by omega)
 ·refine Br ?_
  refine Aa [] [2] ?_
  refine Ag ?_
  refine RK wR [(.bool true)] ?_
  exact Same.of_eq (by rw [Q03 fun j hj => f1_2 j (by omega)]; rfl)
theorem Q5o (p : PkgT) (hs : p.depSize ≤ 4194304) :
  FnV Tryz.prog 156 [(As p)] (.bool (Fq p)) := by
 refine A4 [.tmp 2] Tryz.func156 rfl Tryz.ntmps156 rfl rfl (fun B F hF => ?_)
 refine Ah [] [1] [(1, 1)] hk0 v0 c0 ?_
 refine Ah [] [3] [] (hk 1 X0g (Q5k p) <| hk0) v0 c0 ?_
 refine Ad ?_
 refine Aa [] [3, 4] ?_
 refine A1 ?_
 refine Bv (fun g y => ∃ (i : Nat), i ≤ 7 ∧ (∀ j, j < i → Dx j (PkgT.list p j) = true) ∧ y = ⟨[(3, (.row 1 7 (fun i => Ac 5 Al (PkgT.list p i)))), (4, (.int .i64 ((i : Int))))], [], 1⟩ ∧ g = 7 - i) [3, 4] 1 _ (by omega) ⟨0, (by omega), (by exact fun j hj => by omega), (by kernel_rfl), rfl⟩ ?_
 rintro g1 y1 ⟨i, f1_1, f1_2, rfl, rfl⟩
 refine Ad ?_
 refine Aa [] [3, 4, 12] ?_
 refine A6 (p := (i : Int) < 7) (by kernel_rfl) (fun c1 => ?_) (fun c1 => ?_)
 ·have hi0 : ((i : Int) = 0) = (i = 0) := by rw [eq_iff_iff]; omega
  have hi4 : ((i : Int) = 4) = (i = 4) := by rw [eq_iff_iff]; omega
  have hll := Yg hs (i := i) (by omega)
  refine Ai ?_
  refine Ad ?_
  refine A1 ?_
  refine Ad ?_
  refine Ah [] [3, 4, 20] [] hk0 v0 (cc 2 (p := (0 ≤ (i : Int) ∧ i < 7)) (by omega) <| c0) ?_
  refine A6 (p := 16 < ((PkgT.list p i).length : Int)) (by kernel_rfl) (fun c2 => ?_) (fun c2 => ?_)
  ·refine Aa [] [2] ?_
   refine Ag ?_
   refine RK wR [(.bool false)] ?_
   exact Same.of_eq (by rw [Q02 i (by omega) (by omega)]; rfl)
  ·refine Ai ?_
   refine Aa [] [3, 4, 5] ?_
   refine A1 ?_
   refine Bv (fun g y => ∃ (k : Nat), k ≤ (PkgT.list p i).length ∧ (∀ j, j < k → F9 i (nth (PkgT.list p i) j) = true) ∧ y = ⟨[(3, (.row 1 7 (fun i => Ac 5 Al (PkgT.list p i)))), (4, (.int .i64 ((i : Int)))), (5, (.int .i64 ((k : Int))))], [], 1⟩ ∧ g = (PkgT.list p i).length - k) [3, 4, 5] 1 _ (by omega) ⟨0, (by omega), (by exact fun j hj => by omega), (by kernel_rfl), rfl⟩ ?_
   rintro g2 y2 ⟨k, f2_1, f2_2, rfl, rfl⟩
   refine Ad ?_
   refine Ah [] [3, 4, 5, 27] [] hk0 v0 (cc 3 (p := (0 ≤ (i : Int) ∧ i < 7)) (by omega) <| c0) ?_
   refine A6 (p := (k : Int) < ((PkgT.list p i).length : Int)) (by kernel_rfl) (fun c3 => ?_) (fun c3 => ?_)
   ·refine Ai ?_
    refine Ad ?_
    refine A1 ?_
    refine Ah (CS := [(2, (0 ≤ (i : Int) ∧ i < 7)), (5, (0 ≤ (k : Int) ∧ k < (PkgT.list p i).length))]) [] [3, 4, 5, 6] [] hk0 v0 (by refine cc _ ?_ <| cc _ ?_ c0 <;> omega) ?_
    refine Ad ?_
    refine Ah [] [3, 4, 5, 6, 39] [(0, 6)] (hk 1 Z4 (Q5q (nth (PkgT.list p i) k) (Yf hs (by omega) (by omega))) <| hk0) v0 c0 ?_
    refine Da (p := (Cp (nth (PkgT.list p i) k)) = 0) (by kernel_rfl) (fun c4 => ?_) (fun c4 => ?_)
    ·refine Aa [] [2] ?_
     refine Ag ?_
     refine RK wR [(.bool false)] ?_
     exact Same.of_eq (by rw [Pv i (j := k) (by omega) (by omega) (by unfold F9; by_cases a1 : Cp (nth (PkgT.list p i) k) = 0 <;> by_cases a2 : DepT.kind (nth (PkgT.list p i) k) = 1 <;> by_cases a3 : DepT.op (nth (PkgT.list p i) k) = 0 <;> by_cases a4 : DepT.op (nth (PkgT.list p i) k) = 2 <;> by_cases b0 : i = 0 <;> by_cases b4 : i = 4 <;> simp_all)]; rfl)
    ·refine Ai ?_
     refine Ad ?_
     obtain ⟨b1, hb1⟩ : ∃ b, b = (decide ((i : Int) = 0)) := ⟨_, rfl⟩
     obtain ⟨b2, hb2⟩ : ∃ b, b = (b1 || (decide ((i : Int) = 4))) := ⟨_, rfl⟩
     have qh1 : (((!b1) = true → (!b1) = true)) ∧ ((b1 = false → (!b1) = true)) ∧ ((b2 = true → b2 = true)) ∧ ((b2 = true → b2 = true)) ∧ ((b2 = true → b2 = true)) := by
      first | omega | (simp; done) | (by_cases a1 : Cp (nth (PkgT.list p i) k) = 0 <;> by_cases a2 : DepT.kind (nth (PkgT.list p i) k) = 1 <;> by_cases a3 : DepT.op (nth (PkgT.list p i) k) = 0 <;> by_cases a4 : DepT.op (nth (PkgT.list p i) k) = 2 <;> by_cases b0 : i = 0 <;> by_cases b4 : i = 4 <;> simp_all)
     refine Ah [43, 44, 47, 48, 49] [3, 4, 5, 6, 50] [] hk0 (vk 3 42 (a := .bool (decide ((i : Int) = 0))) (b := .bool b1) (Imp.of_eq (by rw [hb1])) <| vk 7 46 (a := .bool (b1 || (decide ((i : Int) = 4)))) (b := .bool b2) (Imp.of_eq (by rw [hb2])) <| v0) (cc 4 (p := ((!b1) = true → (!b1) = true)) qh1.1 <| cc 5 (p := (b1 = false → (!b1) = true)) qh1.2.1 <| cc 8 (p := (b2 = true → b2 = true)) qh1.2.2.1 <| cc 9 (p := (b2 = true → b2 = true)) qh1.2.2.2.1 <| cc 10 (p := (b2 = true → b2 = true)) qh1.2.2.2.2 <| c0) ?_
     refine Bd (q := b2 && (!decide (((nth (PkgT.list p i) k).kind) = 1))) (by kernel_rfl) (fun c5 => ?_) (fun c5 => ?_)
     ·subst hb2 hb1
      try simp only [Ao] at c5
      refine Aa [] [2] ?_
      refine Ag ?_
      refine RK wR [(.bool false)] ?_
      exact Same.of_eq (by rw [Pv i (j := k) (by omega) (by omega) (by unfold F9; by_cases a1 : Cp (nth (PkgT.list p i) k) = 0 <;> by_cases a2 : DepT.kind (nth (PkgT.list p i) k) = 1 <;> by_cases a3 : DepT.op (nth (PkgT.list p i) k) = 0 <;> by_cases a4 : DepT.op (nth (PkgT.list p i) k) = 2 <;> by_cases b0 : i = 0 <;> by_cases b4 : i = 4 <;> simp_all)]; rfl)
     ·subst hb2 hb1
      try simp only [Ao] at c5
      refine Ai ?_
      obtain ⟨b3, hb3⟩ : ∃ b, b = (decide ((i : Int) = 0)) := ⟨_, rfl⟩
      obtain ⟨b4, hb4⟩ : ∃ b, b = (b3 && (!decide (((nth (PkgT.list p i) k).op) = 0))) := ⟨_, rfl⟩
      have qh2 : ((b3 = true → b3 = true)) ∧ ((b3 = true → b3 = true)) ∧ ((b3 = true → b3 = true)) ∧ ((b4 = true → b4 = true)) ∧ ((b4 = true → b4 = true)) ∧ ((b4 = true → b4 = true)) := by
       first | omega | (simp; done) | (by_cases a1 : Cp (nth (PkgT.list p i) k) = 0 <;> by_cases a2 : DepT.kind (nth (PkgT.list p i) k) = 1 <;> by_cases a3 : DepT.op (nth (PkgT.list p i) k) = 0 <;> by_cases a4 : DepT.op (nth (PkgT.list p i) k) = 2 <;> by_cases b0 : i = 0 <;> by_cases b4 : i = 4 <;> simp_all)
      refine Ah [54, 55, 56, 59, 60, 61] [3, 4, 5, 62] [] hk0 (vk 3 53 (a := .bool (decide ((i : Int) = 0))) (b := .bool b3) (Imp.of_eq (by rw [hb3])) <| vk 7 57 (a := .bool (b3 && (!decide (((nth (PkgT.list p i) k).op) = 0)))) (b := .bool b4) (Imp.of_eq (by rw [hb4])) <| v0) (cc 4 (p := (b3 = true → b3 = true)) qh2.1 <| cc 5 (p := (b3 = true → b3 = true)) qh2.2.1 <| cc 6 (p := (b3 = true → b3 = true)) qh2.2.2.1 <| cc 9 (p := (b4 = true → b4 = true)) qh2.2.2.2.1 <| cc 10 (p := (b4 = true → b4 = true)) qh2.2.2.2.2.1 <| cc 11 (p := (b4 = true → b4 = true)) qh2.2.2.2.2.2 <| c0) ?_
      refine Bd (q := b4 && (!decide (((nth (PkgT.list p i) k).op) = 2))) (by kernel_rfl) (fun c6 => ?_) (fun c6 => ?_)
      ·subst hb4 hb3
       try simp only [Ao] at c6
       refine Aa [] [2] ?_
       refine Ag ?_
       refine RK wR [(.bool false)] ?_
       exact Same.of_eq (by rw [Pv i (j := k) (by omega) (by omega) (by unfold F9; by_cases a1 : Cp (nth (PkgT.list p i) k) = 0 <;> by_cases a2 : DepT.kind (nth (PkgT.list p i) k) = 1 <;> by_cases a3 : DepT.op (nth (PkgT.list p i) k) = 0 <;> by_cases a4 : DepT.op (nth (PkgT.list p i) k) = 2 <;> by_cases b0 : i = 0 <;> by_cases b4 : i = 4 <;> simp_all)]; rfl)
      ·subst hb4 hb3
       try simp only [Ao] at c6
       refine Ai ?_
       refine Ap ?_
       refine Av 0 [] [3, 4, 5] [] hk0 v0 (cc 1 (p := (-9223372036854775808 ≤ (k : Int) + 1 ∧ (k : Int) + 1 ≤ 9223372036854775807)) (by omega) <| c0) ?_
       refine ⟨by kernel_rfl, _, ?_, k + 1, ?_, ?_, (by kernel_rfl), rfl⟩
       ·omega
       ·omega
       ·intro j hj
        by_cases h : j = k
        ·subst h; unfold F9; by_cases a1 : Cp (nth (PkgT.list p i) j) = 0 <;> by_cases a2 : DepT.kind (nth (PkgT.list p i) j) = 1 <;> by_cases a3 : DepT.op (nth (PkgT.list p i) j) = 0 <;> by_cases a4 : DepT.op (nth (PkgT.list p i) j) = 2 <;> by_cases b0 : i = 0 <;> by_cases b4 : i = 4 <;> simp_all
        ·exact f2_2 j (by omega)
   ·refine Br ?_
    refine Ap ?_
    refine Av 0 [] [3, 4] [] hk0 v0 (cc 1 (p := (-9223372036854775808 ≤ (i : Int) + 1 ∧ (i : Int) + 1 ≤ 9223372036854775807)) (by omega) <| c0) ?_
    refine ⟨by kernel_rfl, _, ?_, i + 1, ?_, ?_, (by kernel_rfl), rfl⟩
    ·omega
    ·omega
    ·intro j hj
     by_cases h : j = i
     ·subst h; exact Yh (k := k) (by omega) (by omega) f2_2
     ·exact f1_2 j (by omega)
 ·refine Br ?_
  refine Aa [] [2] ?_
  refine Ag ?_
  refine RK wR [(.bool true)] ?_
  exact Same.of_eq (by rw [Q03 fun j hj => f1_2 j (by omega)]; rfl)
end Sv
end Go.Proofs.YtlmloohlmlahfaaGreatDoor
end
section
namespace Go.Proofs.YtlmloohlmlahfaaGreatDoor
open Go Go.RowKit
namespace Sv
attribute [local irreducible] SW SO Bn
set_option maxHeartbeats 1000000
set_option maxRecDepth 100000
def E2 (x : Nat) : Bool := (decide (97 ≤ x) && decide (x ≤ 122)) || (decide (48 ≤ x) && decide (x ≤ 57)) || decide (x = 95)
def E5 (x : Nat) : Bool := decide (32 ≤ x) && decide (x ≤ 126)
def Gg (s : List UInt8) (most : Int) (q : Nat → Bool) : Bool := decide ((s.length : Int) ≤ most) && decide (Lib.idxFunc (fun x => !q x) true ⟨s.toArray⟩ < 0)
theorem Q2l (s : List UInt8) (most : Int) {q : Nat → Bool} (hq : ∀ r, 128 ≤ r → q r = false) : Gg s most q = (decide ((s.length : Int) ≤ most) && s.all fun b => q b.toNat) := by
 unfold Gg; rw [Q8r (fun r hr => by rw [hq r hr]; rfl)]; simp
theorem Q4j (r : Nat) (h : 128 ≤ r) : E2 r = false := by unfold E2; simp; omega
theorem Q4t (r : Nat) (h : 128 ≤ r) : E5 r = false := by unfold E5; simp; omega
theorem Q2j {s : List UInt8} {q : Nat → Bool} {i : Nat} (hi : i < s.length) (h : q (Aq s i).toNat = false) : (s.all fun b => q b.toNat) = false := by
 rw [List.all_eq_false]
 rw [Jd hi] at h
 exact ⟨s[i], List.getElem_mem hi, by simp [h]⟩
theorem Q2i {s : List UInt8} {q : Nat → Bool} {i : Nat} (hi : s.length ≤ i) (h : ∀ j, j < i → q (Aq s j).toNat = true) : (s.all fun b => q b.toNat) = true := by
 rw [List.all_eq_true]
 intro x hx
 obtain ⟨j, hj, rfl⟩ := List.getElem_of_mem hx
 have := h j (by omega)
 rwa [Jd hj] at this
def Jf (s : List UInt8) : Bool := decide (1 ≤ s.length) && decide (s.length ≤ 20) && s.all fun b => E2 b.toNat
def Hv (f : List UInt8) : Bool := Bj f 47 && Bp f
def G0 (s : List UInt8) : Bool := s.all fun b => E5 b.toNat
def Ig (l : List (List UInt8)) : Bool := decide (l.length ≤ 16) && l.all Hv
def P7 (l : List (List UInt8)) : Bool := l.any fun x => !Hv x
def Dv (p : PkgT) : Int :=
 if Bp p.name = false then 60
 else if Cc p.evr ≠ 0 then 61
 else if Jf p.arch = false then 62
 else if (decide (p.vendor.length ≤ 60) && G0 p.vendor) = false then 63
 else if Fq p = false then 64
 else if Ig p.files = false then 65
 else 0
def Ia (p : PkgT) : Int :=
 if Bp p.name = false then 60
 else if ¬ Cc p.evr = 0 then 61
 else if p.arch = [] ∨ Gg p.arch 20 E2 = false then 62
 else if Gg p.vendor 60 E5 = false then 63
 else if Fq p = false then 64
 else if (16 : Int) < (p.files.length : Int) ∨ P7 p.files = true then 65
 else 0
theorem Jv (p : PkgT) : Ia p = Dv p := by
 have ha1 : (p.arch = [] ∨ Gg p.arch 20 E2 = false) ↔ Jf p.arch = false := by
  rw [Q2l p.arch 20 Q4j]
  unfold Jf
  cases h : p.arch with
  | nil => simp
  | cons a r =>
   rw [show decide (1 ≤ (a :: r).length) = true by simp, Bool.true_and]
   rw [show decide (((a :: r).length : Int) ≤ 20) = decide ((a :: r).length ≤ 20) from decide_eq_decide.2 (by omega)]
   simp
 have ha2 : Gg p.vendor 60 E5 = (decide (p.vendor.length ≤ 60) && G0 p.vendor) := by
  unfold G0
  rw [Q2l p.vendor 60 Q4t, show decide ((p.vendor.length : Int) ≤ 60) = decide (p.vendor.length ≤ 60) from decide_eq_decide.2 (by omega)]
 have ha3 : ((16 : Int) < (p.files.length : Int) ∨ P7 p.files = true) ↔ Ig p.files = false := by
  unfold P7 Ig
  rw [X27]
  simp only [Bool.and_eq_false_iff, decide_eq_false_iff_not, Bool.not_eq_true']
  constructor
  ·rintro (h | h)
   ·left; omega
   ·exact .inr h
  ·rintro (h | h)
   ·left; omega
   ·exact .inr h
 unfold Ia Dv
 simp only [ha1, ha2, ha3]
def H9 (p : PkgT) : Int :=
 if Bp p.name = false then 60
 else if ¬ Cc p.evr = 0 then 61
 else if Jf p.arch = false then 62
 else if G0 p.vendor = false ∨ (60 : Int) < (p.vendor.length : Int) then 63
 else if Fq p = false then 64
 else if Ig p.files = false then 65
 else 0
theorem Ju (p : PkgT) : H9 p = Dv p := by
 have ha : (G0 p.vendor = false ∨ (60 : Int) < (p.vendor.length : Int)) ↔ (decide (p.vendor.length ≤ 60) && G0 p.vendor) = false := by
  simp only [Bool.and_eq_false_iff, decide_eq_false_iff_not]
  constructor
  ·rintro (h | h)
   ·exact .inr h
   ·left; omega
  ·rintro (h | h)
   ·right; omega
   ·exact .inl h
 unfold H9 Dv
 simp only [ha]
theorem Zr {f : List UInt8} : Hv f = (Bp f && decide (((Aq f 0).toNat : Int) = 47)) := by
 unfold Hv
 cases f with
 | nil => rw [show Bp [] = false by decide]; simp
 | cons a r =>
  have h1 : Bj (a :: r) 47 = decide (a = 47) := by simp [Bj]
  have h2 : Aq (a :: r) 0 = a := by simp [Aq]
  rw [h1, h2, Bool.and_comm]
  congr 1
  refine decide_eq_decide.2 ⟨fun h => by rw [h]; rfl, fun h => UInt8.toNat_inj.1 (by show _ = 47; omega)⟩
theorem Q4k (x : Nat) :
  FnV Tryz.prog 102 [(.int .i32 ((x : Int)))] (.bool (E2 x)) := by
 refine A4 [.tmp 2] Tryz.func102 rfl Tryz.ntmps102 rfl rfl (fun B F hF => ?_)
 refine Aa [] [0] ?_
 obtain ⟨b1, hb1⟩ : ∃ b, b = (decide (97 ≤ (x : Int))) := ⟨_, rfl⟩
 obtain ⟨b2, hb2⟩ : ∃ b, b = (b1 && (decide ((x : Int) ≤ 122))) := ⟨_, rfl⟩
 obtain ⟨b3, hb3⟩ : ∃ b, b = (b2 || ((decide (48 ≤ (x : Int))) && (decide ((x : Int) ≤ 57)))) := ⟨_, rfl⟩
 refine Ah (CS := [(4, (b1 = true → b1 = true)), (5, (b1 = true → b1 = true)), (8, ((!b2) = true → (!b2) = true)), (9, ((!b2) = true → (!b2) = true)), (11, (((!b2) && (decide (48 ≤ (x : Int)))) = true → ((!b2) && (decide (48 ≤ (x : Int)))) = true)), (12, ((!b2) = true → ((!b2) = true) ∧ ((decide (48 ≤ (x : Int))) = true → ((!b2) && (decide (48 ≤ (x : Int)))) = true))), (13, (b2 = false → (!b2) = true)), (16, ((!b3) = true → (!b3) = true)), (17, (b3 = false → (!b3) = true))]) [6, 7, 10, 11, 12, 13, 14, 15, 18, 19] [2] [] hk0 (vk 3 5 (a := .bool (decide (97 ≤ (x : Int)))) (b := .bool b1) (Imp.of_eq (by rw [hb1])) <| vk 7 9 (a := .bool (b1 && (decide ((x : Int) ≤ 122)))) (b := .bool b2) (Imp.of_eq (by rw [hb2])) <| vk 14 16 (a := .bool (b2 || ((decide (48 ≤ (x : Int))) && (decide ((x : Int) ≤ 57))))) (b := .bool b3) (Imp.of_eq (by rw [hb3])) <| v0) (by refine cc _ ?_ <| cc _ ?_ <| cc _ ?_ <| cc _ ?_ <| cc _ ?_ <| cc _ ?_ <| cc _ ?_ <| cc _ ?_ <| cc _ ?_ c0 <;> (intros; simp_all; done)) ?_
 refine Ag ?_
 refine RK wR [(.bool (b3 || (decide ((x : Int) = 95))))] ?_
 subst hb3 hb2 hb1
 refine Same.of_eq ?_
 simp only [Ak]
 congr 1
 unfold E2
 rw [Bool.eq_iff_iff]
 simp only [Bool.and_eq_true, Bool.or_eq_true, decide_eq_true_eq]
 omega
theorem Q4u (x : Nat) :
  FnV Tryz.prog 103 [(.int .i32 ((x : Int)))] (.bool (E5 x)) := by
 refine A4 [.tmp 2] Tryz.func103 rfl Tryz.ntmps103 rfl rfl (fun B F hF => ?_)
 refine Aa [] [0] ?_
 obtain ⟨b1, hb1⟩ : ∃ b, b = (decide (32 ≤ (x : Int))) := ⟨_, rfl⟩
 refine Ah (CS := [(4, (b1 = true → b1 = true)), (5, (b1 = true → b1 = true))]) [6, 7] [2] [] hk0 (vk 3 5 (a := .bool (decide (32 ≤ (x : Int)))) (b := .bool b1) (Imp.of_eq (by rw [hb1])) <| v0) (by refine cc _ ?_ <| cc _ ?_ c0 <;> simp) ?_
 refine Ag ?_
 refine RK wR [(.bool (b1 && (decide ((x : Int) ≤ 126))))] ?_
 subst hb1
 refine Same.of_eq ?_
 simp only [Ak]
 congr 1
 unfold E5
 rw [Bool.eq_iff_iff]
 simp only [Bool.and_eq_true, Bool.or_eq_true, decide_eq_true_eq]
 omega
theorem Q65 (x : Nat) (a : AV) (q : Nat → Bool) (hx : x ≤ 1114111) (ha : ∀ x : Nat, x ≤ 1114111 → FunV Tryz.prog a [.int .i32 (x : Int)] (.bool (q x))) :
  FnV Tryz.prog 106 [(.int .i32 ((x : Int))), (.fp (.agg [(.clo a)]))] (.bool (!q x)) := by
 refine A4 [.tmp 3] Tryz.func106 rfl Tryz.ntmps106 rfl rfl (fun B F hF => ?_)
 refine Aa [] [0, 1] ?_
 refine Ad ?_
 refine Ap ?_
 refine Bq 2 0 [] [4, 5] [] hk0 v0 c0 ?_
 refine Fd (s' := [(4, (.clo a)), (5, (.int .i32 ((x : Int)))), (6, (.bool (q x)))]) (a := (.clo a)) (al := [(.int .i32 ((x : Int)))]) (r := (.bool (q x))) (by kernel_rfl) (by kernel_rfl) (by kernel_rfl) (by kernel_rfl) (by kernel_rfl) ((ha x hx).clo) (by kernel_rfl) ?_
 refine Av 3 [] [3] [] hk0 v0 c0 ?_
 refine Ag ?_
 refine RK wR [(.bool (!(q x)))] ?_
 exact Same.of_eq (by first | rfl | (simp only [Ak]; simp_all))
theorem Q2g (s : List UInt8) (most : Int) (a : AV) (q : Nat → Bool) (hl : s.length ≤ 9223372036854775807) (ha : ∀ x : Nat, x ≤ 1114111 → FunV Tryz.prog a [.int .i32 (x : Int)] (.bool (q x))) :
  FnV Tryz.prog 104 [(.str s), (.int .i64 most), (.clo a)] (.bool (Gg s most q)) := by
 refine A4 [.tmp 6] Tryz.func104 rfl Tryz.ntmps104 rfl rfl (fun B F hF => ?_)
 refine Aa [] [0, 1, 5] ?_
 refine Ad ?_
 refine Ap ?_
 obtain ⟨b2, hb2⟩ : ∃ b, b = (decide ((s.length : Int) ≤ most)) := ⟨_, rfl⟩
 refine Bq 7 0 [12, 13] [11, 12, 13] [] hk0 (vk 5 11 (a := .bool (decide ((s.length : Int) ≤ most))) (b := .bool b2) (Imp.of_eq (by rw [hb2])) <| v0) c0 ?_
 refine Ub (s' := [(11, (.bool b2)), (12, (.cond b2 (.str s))), (13, (.cond b2 (.fn 106 [] [(.ptr 0 0)]))), (14, (.cond b2 (.int .i64 (Lib.idxFunc (fun x => !q x) true ⟨s.toArray⟩))))]) (q := b2) (al := [(.str s), (.fn 106 [] [(.ptr 0 0)])]) (al' := [(.str s), (.fn 106 [] [(.fp (.agg [(.clo a)]))])]) (h' := []) (r := (.int .i64 (Lib.idxFunc (fun x => !q x) true ⟨s.toArray⟩))) (by kernel_rfl) (by exact X1l) (by kernel_rfl) (O3 (some (b2 = true ∧ b2 = true)) (by kernel_rfl) fun cg => hold (by (simp; omega))) (by kernel_rfl) (fun cg => X47 s 106 [.fp (.agg [.clo a])] (fun x => !q x) (by exact X1k) rfl (fun x hx => Q65 x a q hx ha)) rfl (by kernel_rfl) ?_
 obtain ⟨b3, hb3⟩ : ∃ b, b = (b2 && (decide ((Lib.idxFunc (fun x => !q x) true ⟨s.toArray⟩) < 0))) := ⟨_, rfl⟩
 refine Av (CS := [(8, (b2 = true → b2 = true)), (9, (b2 = true → b2 = true))]) 8 [15] [6] [] hk0 (vk 10 16 (a := .bool (b2 && (decide ((Lib.idxFunc (fun x => !q x) true ⟨s.toArray⟩) < 0)))) (b := .bool b3) (Imp.of_eq (by rw [hb3])) <| v0) (by refine cc _ ?_ <| cc _ ?_ c0 <;> simp) ?_
 refine Ag ?_
 refine RK wR [(.bool b3)] ?_
 subst hb3 hb2
 exact Same.of_eq (by first | rfl | (simp only [Ak]; simp_all))
theorem Q9h (s : List UInt8) (hl : s.length ≤ 9223372036854775807) :
  FnV Tryz.prog 110 [(.str s)] (.bool (!Hv s)) := by
 refine A4 [.tmp 2] Tryz.func110 rfl Tryz.ntmps110 rfl rfl (fun B F hF => ?_)
 refine Aa [] [0] ?_
 refine Ah (CS := [(5, (!(!(Bj s 47))) = true → (!(!(Bj s 47))) = true), (6, ((!(!(Bj s 47))) = true → (!(!(Bj s 47))) = true)), (7, ((!(Bj s 47)) = false → (!(!(Bj s 47))) = true))]) [7, 9] [2] [] (hk 1 Lv (Ny s 47 hl) <| hkg 5 (!(!(Bj s 47))) Nh (fun cg => Qk s hl) <| hk0) v0 (by refine cc _ ?_ <| cc _ ?_ <| cc _ ?_ c0 <;> simp) ?_
 refine Ag ?_
 refine RK wR [(.bool ((!(Bj s 47)) || (!(Bp s))))] ?_
 exact Same.of_eq (by simp only [Ak]; congr 1; unfold Hv; cases Bj s 47 <;> cases Bp s <;> rfl)
theorem X5i (p : PkgT) (hs : p.size ≤ 4194304) :
  FnV Tryz.prog 49 [(As p)] (.int .i64 (Dv p)) := by
 have hsz := p.sizes
 have hfl := Kb p.files
 refine A4 [.tmp 2] Tryz.func49 rfl Tryz.ntmps49 rfl rfl (fun B F hF => ?_)
 refine Ah [] [1] [(1, 1)] hk0 v0 c0 ?_
 refine Aa [] [1, 3] ?_
 refine Aa [] [1, 3, 4] ?_
 refine Aa [] [1, 3, 4, 5] ?_
 refine Ah [] [1, 3, 4, 5, 7] [(8, 6)] (hk 2 Ni (Pl p.evr (by omega)) <| hk0) v0 c0 ?_
 refine Ad ?_
 refine A1 ?_
 refine Ah [] [1, 3, 4, 5, 7, 14] [] (hk 2 Nh (Qk p.name (by omega)) <| hk0) v0 c0 ?_
 refine Bd (q := !(Bp p.name)) (by kernel_rfl) (fun c1 => ?_) (fun c1 => ?_)
 ·try simp only [Ao] at c1
  refine Aa [] [2] ?_
  refine Ag ?_
  refine RK wR [(.int .i64 60)] ?_
  refine Same.of_eq ?_
  simp only [Ak]
  congr 1
  rw [← Jv]
  unfold Ia
  simp_all
 ·try simp only [Ao] at c1
  refine Aa [] [1, 3, 4, 5, 19] ?_
  refine Da (p := (Cc p.evr) = 0) (by kernel_rfl) (fun c2 => ?_) (fun c2 => ?_)
  ·refine Aa [] [2] ?_
   refine Ag ?_
   refine RK wR [(.int .i64 61)] ?_
   refine Same.of_eq ?_
   simp only [Ak]
   congr 1
   rw [← Jv]
   unfold Ia
   simp_all
  ·refine Ad ?_
   refine Ap ?_
   obtain ⟨b2, hb2⟩ : ∃ b, b = (decide (p.arch = [])) := ⟨_, rfl⟩
   refine Bq 8 0 [27, 28, 29, 30] [1, 4, 5, 26, 27, 29, 30] [] hk0 (vk 4 26 (a := .bool (decide (p.arch = []))) (b := .bool b2) (Imp.of_eq (by rw [hb2])) <| v0) (cc 6 (p := ((!b2) = true → (!b2) = true)) (by simp) <| c0) ?_
   refine X4e (s' := [(1, (.fp (As p))), (4, (.fn 103 [] [])), (5, (.fn 104 [] [])), (26, (.bool b2)), (27, (.cond (!b2) (.fn 104 [] []))), (29, (.cond (!b2) (.str p.arch))), (30, (.cond (!b2) (.fn 102 [] []))), (31, (.cond (!b2) (.bool (Gg p.arch 20 E2))))]) (q := !b2) (al := [(.str p.arch), (.int .i64 20), (.fn 102 [] [])]) (f := 104) (cap := []) (r := (.bool (Gg p.arch 20 E2))) (by kernel_rfl) (fun cg => .inr ⟨!b2, by kernel_rfl, by first | exact cg | simp_all⟩) (by exact Q0w) (by kernel_rfl) (O3 (some ((!b2) = true ∧ (!b2) = true)) (by kernel_rfl) fun cg => hold (by (intros; simp_all; done))) (by kernel_rfl) (fun cg => (Q2g p.arch 20 (.fn 102 [] []) E2 (by omega) (fun x _ => FunV.of (by exact X1n) (Q4k x))).of_args (ImpL.cons Imp.refl (ImpL.cons Imp.refl (ImpL.cons (Imp.clo rfl) ImpL.nil)))) (by kernel_rfl) ?_
   refine Av (CS := [(9, ((!b2) = true → (!b2) = true)), (10, (b2 = false → (!b2) = true))]) 9 [32] [1, 4, 5, 22] [] hk0 v0 (by refine cc _ ?_ <| cc _ ?_ c0 <;> simp) ?_
   refine Bd (q := b2 || (!(Gg p.arch 20 E2))) (by kernel_rfl) (fun c3 => ?_) (fun c3 => ?_)
   ·subst hb2
    try simp only [Ao] at c3
    refine Aa [] [2] ?_
    refine Ag ?_
    refine RK wR [(.int .i64 62)] ?_
    refine Same.of_eq ?_
    simp only [Ak]
    congr 1
    rw [← Jv]
    unfold Ia
    simp_all
   ·subst hb2
    try simp only [Ao] at c3
    refine Ad ?_
    refine Ap ?_
    refine Bq 4 0 [] [1, 35, 37, 38] [] hk0 v0 c0 ?_
    refine Q24 (f := 104) (cap := []) (s' := [(1, (.fp (As p))), (35, (.fn 104 [] [])), (37, (.str p.vendor)), (38, (.fn 103 [] [])), (39, (.bool (Gg p.vendor 60 E5)))]) (al := [(.str p.vendor), (.int .i64 60), (.fn 103 [] [])]) (r := (.bool (Gg p.vendor 60 E5))) (by kernel_rfl) (by kernel_rfl) (by exact Q0w) (by kernel_rfl) (by kernel_rfl) ((Q2g p.vendor 60 (.fn 103 [] []) E5 (by omega) (fun x _ => FunV.of (by exact X1m) (Q4u x))).of_args (ImpL.cons Imp.refl (ImpL.cons Imp.refl (ImpL.cons (Imp.clo rfl) ImpL.nil)))) (by kernel_rfl) ?_
    refine Av 5 [] [1, 34] [] hk0 v0 c0 ?_
    refine Bd (q := !(Gg p.vendor 60 E5)) (by kernel_rfl) (fun c4 => ?_) (fun c4 => ?_)
    ·try simp only [Ao] at c4
     refine Aa [] [2] ?_
     refine Ag ?_
     refine RK wR [(.int .i64 63)] ?_
     refine Same.of_eq ?_
     simp only [Ak]
     congr 1
     rw [← Jv]
     unfold Ia
     simp_all
    ·try simp only [Ao] at c4
     refine Ah [] [1, 41] [] (hk 1 X1j (X1s p (by omega)) <| hk0) v0 c0 ?_
     refine Bd (q := !(Fq p)) (by kernel_rfl) (fun c5 => ?_) (fun c5 => ?_)
     ·try simp only [Ao] at c5
      refine Aa [] [2] ?_
      refine Ag ?_
      refine RK wR [(.int .i64 64)] ?_
      refine Same.of_eq ?_
      simp only [Ak]
      congr 1
      rw [← Jv]
      unfold Ia
      simp_all
     ·try simp only [Ao] at c5
      obtain ⟨b3, hb3⟩ : ∃ b, b = (decide (16 < (p.files.length : Int))) := ⟨_, rfl⟩
      refine Ah (CS := [(6, ((!b3) = true → (!b3) = true)), (7, (!b3) = true → (!b3) = true), (8, (b3 = false → (!b3) = true))]) [51, 52] [45] [] (hkg 7 (!b3) (al := [(C3 p.files), (.fn 110 [] [])]) X1i (fun cg => (Q37 p.files (.fn 110 [] []) (fun x => !Hv x) (by omega) (fun i hi => FunV.of (by exact X1g) (Q9h (nth p.files i) (by have := Ss hi; omega)))).of_args (ImpL.cons Imp.refl (ImpL.cons (Imp.clo rfl) ImpL.nil))) <| hk0) (vk 5 50 (a := .bool (decide (16 < (p.files.length : Int)))) (b := .bool b3) (Imp.of_eq (by rw [hb3])) <| v0) (by refine cc _ ?_ <| cc _ ?_ <| cc _ ?_ c0 <;> simp) ?_
      refine Bd (q := b3 || (P7 p.files)) (by kernel_rfl) (fun c6 => ?_) (fun c6 => ?_)
      ·subst hb3
       try simp only [Ao] at c6
       refine Aa [] [2] ?_
       refine Ag ?_
       refine RK wR [(.int .i64 65)] ?_
       refine Same.of_eq ?_
       simp only [Ak]
       congr 1
       rw [← Jv]
       unfold Ia
       simp_all
      ·subst hb3
       try simp only [Ao] at c6
       refine Ai ?_
       refine Aa [] [2] ?_
       refine Ag ?_
       refine RK wR [(.int .i64 0)] ?_
       refine Same.of_eq ?_
       simp only [Ak]
       congr 1
       rw [← Jv]
       unfold Ia
       simp_all
theorem Q5r (s : List UInt8) (hl : s.length ≤ 9223372036854775807) :
  FnV Tryz.prog 154 [(.str s)] (.bool (Jf s)) := by
 refine A4 [.tmp 2] Tryz.func154 rfl Tryz.ntmps154 rfl rfl (fun B F hF => ?_)
 refine Aa [] [0] ?_
 refine Ad ?_
 refine Aa [] [0, 3] ?_
 refine A1 ?_
 refine Bv (fun g y => ∃ (i : Nat), i ≤ s.length ∧ (∀ j, j < i → E2 (Aq s j).toNat = true) ∧ y = ⟨[(0, (.str s)), (3, (.int .i64 ((i : Int))))], [], 0⟩ ∧ g = s.length - i) [0, 3] 0 _ (by omega) ⟨0, (by omega), (by exact fun j hj => by omega), (by kernel_rfl), rfl⟩ ?_
 rintro g1 y1 ⟨i, f1_1, f1_2, rfl, rfl⟩
 refine Ad ?_
 refine Aa [] [0, 3, 8] ?_
 refine A6 (p := (i : Int) < (s.length : Int)) (by kernel_rfl) (fun c1 => ?_) (fun c1 => ?_)
 ·refine Ai ?_
  refine Ad ?_
  refine A1 ?_
  refine Ah [] [0, 3, 4] [] hk0 v0 (cc 2 (p := (0 ≤ (i : Int) ∧ i < s.length)) (by omega) <| c0) ?_
  obtain ⟨b1, hb1⟩ : ∃ b, b = (decide (((Aq s i).toNat : Int) < 97)) := ⟨_, rfl⟩
  obtain ⟨b2, hb2⟩ : ∃ b, b = (b1 || (decide (122 < ((Aq s i).toNat : Int)))) := ⟨_, rfl⟩
  obtain ⟨b3, hb3⟩ : ∃ b, b = (b2 && ((decide (((Aq s i).toNat : Int) < 48)) || (decide (57 < ((Aq s i).toNat : Int))))) := ⟨_, rfl⟩
  refine Ah (CS := [(4, ((!b1) = true → (!b1) = true)), (5, (b1 = false → (!b1) = true)), (8, (b2 = true → b2 = true)), (9, (b2 = true → b2 = true)), (11, ((b2 && (!(decide (((Aq s i).toNat : Int) < 48)))) = true → (b2 && (!(decide (((Aq s i).toNat : Int) < 48)))) = true)), (12, (b2 = true → (b2 = true) ∧ ((decide (((Aq s i).toNat : Int) < 48)) = false → (b2 && (!(decide (((Aq s i).toNat : Int) < 48)))) = true))), (13, (b2 = true → b2 = true)), (16, (b3 = true → b3 = true)), (17, (b3 = true → b3 = true))]) [17, 18, 21, 22, 23, 24, 25, 26, 29, 30] [0, 3, 31] [] hk0 (vk 3 16 (a := .bool (decide (((Aq s i).toNat : Int) < 97))) (b := .bool b1) (Imp.of_eq (by rw [hb1])) <| vk 6 19 (a := .bool (b1 || (decide (122 < ((Aq s i).toNat : Int))))) (b := .bool b2) (Imp.of_eq (by rw [hb2])) <| vk 14 27 (a := .bool (b2 && ((decide (((Aq s i).toNat : Int) < 48)) || (decide (57 < ((Aq s i).toNat : Int)))))) (b := .bool b3) (Imp.of_eq (by rw [hb3])) <| v0) (by refine cc _ ?_ <| cc _ ?_ <| cc _ ?_ <| cc _ ?_ <| cc _ ?_ <| cc _ ?_ <| cc _ ?_ <| cc _ ?_ <| cc _ ?_ c0 <;> (intros; simp_all; done)) ?_
  refine Bd (q := b3 && (!decide (((Aq s i).toNat : Int) = 95))) (by kernel_rfl) (fun c2 => ?_) (fun c2 => ?_)
  ·subst hb3 hb2 hb1
   try simp only [Ao] at c2
   refine Aa [] [2] ?_
   refine Ag ?_
   refine RK wR [(.bool false)] ?_
   refine Same.of_eq ?_
   have : s.all (fun b => E2 b.toNat) = false := Q2j (i := i) (by omega) (by unfold E2; simp only [Bool.and_eq_false_iff, Bool.or_eq_false_iff, decide_eq_false_iff_not]; omega)
   unfold Jf; rw [this, Bool.and_false]; rfl
  ·subst hb3 hb2 hb1
   try simp only [Ao] at c2
   refine Ai ?_
   refine Ap ?_
   refine Av 0 [] [0, 3] [] hk0 v0 (cc 1 (p := (-9223372036854775808 ≤ (i : Int) + 1 ∧ (i : Int) + 1 ≤ 9223372036854775807)) (by omega) <| c0) ?_
   refine ⟨by kernel_rfl, _, ?_, i + 1, ?_, ?_, (by kernel_rfl), rfl⟩
   ·omega
   ·omega
   ·intro j hj
    by_cases h : j = i
    ·subst h; unfold E2; simp only [Bool.and_eq_true, Bool.or_eq_true, decide_eq_true_eq]; omega
    ·exact f1_2 j (by omega)
 ·refine Br ?_
  obtain ⟨b4, hb4⟩ : ∃ b, b = (decide (1 ≤ (s.length : Int))) := ⟨_, rfl⟩
  refine Ah (CS := [(5, (b4 = true → b4 = true)), (6, (b4 = true → b4 = true)), (7, (b4 = true → b4 = true))]) [36, 37, 38] [2] [] hk0 (vk 4 35 (a := .bool (decide (1 ≤ (s.length : Int)))) (b := .bool b4) (Imp.of_eq (by rw [hb4])) <| v0) (by refine cc _ ?_ <| cc _ ?_ <| cc _ ?_ c0 <;> simp) ?_
  refine Ag ?_
  refine RK wR [(.bool (b4 && (decide ((s.length : Int) ≤ 20))))] ?_
  subst hb4
  refine Same.of_eq ?_
  simp only [Ak]
  congr 1
  unfold Jf
  rw [Q2i (by omega) f1_2, show decide ((1 : Int) ≤ (s.length : Int)) = decide (1 ≤ s.length) from decide_eq_decide.2 (by omega), show decide ((s.length : Int) ≤ 20) = decide (s.length ≤ 20) from decide_eq_decide.2 (by omega)]
  simp
theorem Q5j (s : List UInt8) (hl : s.length ≤ 9223372036854775807) :
  FnV Tryz.prog 155 [(.str s)] (.bool (G0 s)) := by
 refine A4 [.tmp 2] Tryz.func155 rfl Tryz.ntmps155 rfl rfl (fun B F hF => ?_)
 refine Aa [] [0] ?_
 refine Ad ?_
 refine Aa [] [0, 3] ?_
 refine A1 ?_
 refine Bv (fun g y => ∃ (i : Nat), i ≤ s.length ∧ (∀ j, j < i → E5 (Aq s j).toNat = true) ∧ y = ⟨[(0, (.str s)), (3, (.int .i64 ((i : Int))))], [], 0⟩ ∧ g = s.length - i) [0, 3] 0 _ (by omega) ⟨0, (by omega), (by exact fun j hj => by omega), (by kernel_rfl), rfl⟩ ?_
 rintro g1 y1 ⟨i, f1_1, f1_2, rfl, rfl⟩
 refine Ad ?_
 refine Aa [] [0, 3, 7] ?_
 refine A6 (p := (i : Int) < (s.length : Int)) (by kernel_rfl) (fun c1 => ?_) (fun c1 => ?_)
 ·refine Ai ?_
  refine Ad ?_
  refine A1 ?_
  obtain ⟨b1, hb1⟩ : ∃ b, b = (decide (((Aq s i).toNat : Int) < 32)) := ⟨_, rfl⟩
  refine Ah (CS := [(2, (0 ≤ (i : Int) ∧ i < s.length)), (7, ((!b1) = true → ((!b1) = true ∧ (!b1) = true) ∧ (0 ≤ (i : Int) ∧ i < s.length))), (8, ((!b1) = true → (!b1) = true)), (9, (b1 = false → (!b1) = true))]) [15, 16, 17, 18] [0, 3, 19] [] hk0 (vk 5 14 (a := .bool (decide (((Aq s i).toNat : Int) < 32))) (b := .bool b1) (Imp.of_eq (by rw [hb1])) <| v0) (by refine cc _ ?_ <| cc _ ?_ <| cc _ ?_ <| cc _ ?_ c0 <;> (intros; simp_all; done)) ?_
  refine Bd (q := b1 || (decide (126 < ((Aq s i).toNat : Int)))) (by kernel_rfl) (fun c2 => ?_) (fun c2 => ?_)
  ·subst hb1
   try simp only [Ao] at c2
   refine Aa [] [2] ?_
   refine Ag ?_
   refine RK wR [(.bool false)] ?_
   refine Same.of_eq ?_
   have : s.all (fun b => E5 b.toNat) = false := Q2j (i := i) (by omega) (by unfold E5; simp only [Bool.and_eq_false_iff, Bool.or_eq_false_iff, decide_eq_false_iff_not]; omega)
   unfold G0; rw [this]; rfl
  ·subst hb1
   try simp only [Ao] at c2
   refine Ai ?_
   refine Ap ?_
   refine Av 0 [] [0, 3] [] hk0 v0 (cc 1 (p := (-9223372036854775808 ≤ (i : Int) + 1 ∧ (i : Int) + 1 ≤ 9223372036854775807)) (by omega) <| c0) ?_
   refine ⟨by kernel_rfl, _, ?_, i + 1, ?_, ?_, (by kernel_rfl), rfl⟩
   ·omega
   ·omega
   ·intro j hj
    by_cases h : j = i
    ·subst h; unfold E5; simp only [Bool.and_eq_true, Bool.or_eq_true, decide_eq_true_eq]; omega
    ·exact f1_2 j (by omega)
 ·refine Br ?_
  refine Aa [] [2] ?_
  refine Ag ?_
  refine RK wR [(.bool true)] ?_
  exact Same.of_eq (by unfold G0; rw [Q2i (by omega) f1_2]; rfl)
theorem Q5n (l : List (List UInt8)) (hl : Gt l ≤ 4194304) :
  FnV Tryz.prog 157 [(C3 l)] (.bool (Ig l)) := by
 have hfl := Kb l
 refine A4 [.tmp 2] Tryz.func157 rfl Tryz.ntmps157 rfl rfl (fun B F hF => ?_)
 refine Aa [] [0] ?_
 refine Ad ?_
 refine Aa [] [0, 7] ?_
 refine A6 (p := 16 < (l.length : Int)) (by kernel_rfl) (fun c1 => ?_) (fun c1 => ?_)
 ·refine Aa [] [2] ?_
  refine Ag ?_
  refine RK wR [(.bool false)] ?_
  exact Same.of_eq (by unfold Ig; rw [decide_eq_false (by omega)]; rfl)
 ·refine Ai ?_
  refine Ad ?_
  refine Aa [] [0, 3] ?_
  refine A1 ?_
  refine Bv (fun g y => ∃ (i : Nat), i ≤ l.length ∧ (∀ j, j < i → Hv (nth l j) = true) ∧ y = ⟨[(0, (C3 l)), (3, (.int .i64 ((i : Int))))], [], 0⟩ ∧ g = l.length - i) [0, 3] 0 _ (by omega) ⟨0, (by omega), (by exact fun j hj => by omega), (by kernel_rfl), rfl⟩ ?_
  rintro g1 y1 ⟨i, f1_1, f1_2, rfl, rfl⟩
  refine Ad ?_
  refine Aa [] [0, 3, 11] ?_
  refine A6 (p := (i : Int) < (l.length : Int)) (by kernel_rfl) (fun c2 => ?_) (fun c2 => ?_)
  ·refine Ai ?_
   refine Ad ?_
   refine A1 ?_
   refine Ah [] [0, 3, 4] [] (hk 4 Nf (Oh (nth l i) (by have := Ss (l := l) (i := i) (by omega); omega)) <| hk0) v0 (cc 2 (p := (0 ≤ (i : Int) ∧ i < l.length)) (by omega) <| c0) ?_
   have qh1 : (((!(!(Bp (nth l i)))) = true → ((!(!(Bp (nth l i)))) = true ∧ (!(!(Bp (nth l i)))) = true) ∧ (0 ≤ (i : Int) ∧ i < l.length))) ∧ (((!(!(Bp (nth l i)))) = true → (!(!(Bp (nth l i)))) = true)) ∧ (((!(!(Bp (nth l i)))) = true → ((!(!(Bp (nth l i)))) = true) ∧ (0 ≤ (0 : Int) ∧ 0 < (nth l i).length))) ∧ (((!(!(Bp (nth l i)))) = true → (!(!(Bp (nth l i)))) = true)) ∧ (((!(Bp (nth l i))) = false → (!(!(Bp (nth l i)))) = true)) := by
    have hp := fun h => Q7g (l := nth l i) h; simp only [Bool.not_not, Bool.not_eq_false']; exact ⟨fun hq => ⟨⟨hq, hq⟩, by omega, by omega⟩, fun hq => hq, fun hq => ⟨hq, by omega, hp hq⟩, fun hq => hq, fun hq => hq⟩
   refine Ah [22, 23, 24, 25, 26, 27] [0, 3, 28] [] hk0 v0 (cc 5 (p := ((!(!(Bp (nth l i)))) = true → ((!(!(Bp (nth l i)))) = true ∧ (!(!(Bp (nth l i)))) = true) ∧ (0 ≤ (i : Int) ∧ i < l.length))) qh1.1 <| cc 6 (p := ((!(!(Bp (nth l i)))) = true → (!(!(Bp (nth l i)))) = true)) qh1.2.1 <| cc 7 (p := ((!(!(Bp (nth l i)))) = true → ((!(!(Bp (nth l i)))) = true) ∧ (0 ≤ (0 : Int) ∧ 0 < (nth l i).length))) qh1.2.2.1 <| cc 8 (p := ((!(!(Bp (nth l i)))) = true → (!(!(Bp (nth l i)))) = true)) qh1.2.2.2.1 <| cc 9 (p := ((!(Bp (nth l i))) = false → (!(!(Bp (nth l i)))) = true)) qh1.2.2.2.2 <| c0) ?_
   refine Bd (q := (!(Bp (nth l i))) || (!decide (((Aq (nth l i) 0).toNat : Int) = 47))) (by kernel_rfl) (fun c3 => ?_) (fun c3 => ?_)
   ·try simp only [Ao] at c3
    refine Aa [] [2] ?_
    refine Ag ?_
    refine RK wR [(.bool false)] ?_
    refine Same.of_eq ?_
    unfold Ig
    have : l.all Hv = false := by
     cases hq : l.all Hv with
     | false => rfl
     | true => have h1 := all_nth.1 hq i (by omega); rw [Zr] at h1; simp_all
    rw [this, Bool.and_false]; rfl
   ·try simp only [Ao] at c3
    refine Ai ?_
    refine Ap ?_
    refine Av 0 [] [0, 3] [] hk0 v0 (cc 1 (p := (-9223372036854775808 ≤ (i : Int) + 1 ∧ (i : Int) + 1 ≤ 9223372036854775807)) (by omega) <| c0) ?_
    refine ⟨by kernel_rfl, _, ?_, i + 1, ?_, ?_, (by kernel_rfl), rfl⟩
    ·omega
    ·omega
    ·intro j hj
     by_cases h : j = i
     ·subst h; rw [Zr]; simp_all
     ·exact f1_2 j (by omega)
  ·refine Br ?_
   refine Aa [] [2] ?_
   refine Ag ?_
   refine RK wR [(.bool true)] ?_
   exact Same.of_eq (by unfold Ig; rw [all_nth.2 (fun j hj => f1_2 j (by omega)), decide_eq_true (by omega)]; rfl)
theorem Q5p (p : PkgT) (hs : p.size ≤ 4194304) :
  FnV Tryz.prog 97 [(As p)] (.int .i64 (Dv p)) := by
 have hsz := p.sizes
 refine A4 [.tmp 2] Tryz.func97 rfl Tryz.ntmps97 rfl rfl (fun B F hF => ?_)
 refine Ah [] [1] [(1, 1)] hk0 v0 c0 ?_
 refine Ah [] [1, 3] [] (hk 2 Nf (Oh p.name (by omega)) <| hk0) v0 c0 ?_
 refine Ad ?_
 refine Aa [] [1, 14] ?_
 refine Bd (q := !(Bp p.name)) (by kernel_rfl) (fun c1 => ?_) (fun c1 => ?_)
 ·try simp only [Ao] at c1
  refine Aa [] [2] ?_
  refine Ag ?_
  refine RK wR [(.int .i64 60)] ?_
  refine Same.of_eq ?_
  simp only [Ak]
  congr 1
  rw [← Ju]
  unfold H9
  simp_all
 ·try simp only [Ao] at c1
  refine Ai ?_
  refine Ah [] [1, 5] [(8, 4)] (hk 2 S9 (Vx p.evr (by omega)) <| hk0) v0 c0 ?_
  refine Ad ?_
  refine Aa [] [1, 22] ?_
  refine Da (p := (Cc p.evr) = 0) (by kernel_rfl) (fun c2 => ?_) (fun c2 => ?_)
  ·refine Aa [] [2] ?_
   refine Ag ?_
   refine RK wR [(.int .i64 61)] ?_
   refine Same.of_eq ?_
   simp only [Ak]
   congr 1
   rw [← Ju]
   unfold H9
   simp_all
  ·refine Ai ?_
   refine Ah [] [1, 6] [] (hk 2 X0w (Q5r p.arch (by omega)) <| hk0) v0 c0 ?_
   refine Ad ?_
   refine Aa [] [1, 27] ?_
   refine Bd (q := !(Jf p.arch)) (by kernel_rfl) (fun c3 => ?_) (fun c3 => ?_)
   ·try simp only [Ao] at c3
    refine Aa [] [2] ?_
    refine Ag ?_
    refine RK wR [(.int .i64 62)] ?_
    refine Same.of_eq ?_
    simp only [Ak]
    congr 1
    rw [← Ju]
    unfold H9
    simp_all
   ·try simp only [Ao] at c3
    refine Ai ?_
    refine Ah [] [1, 7] [] (hk 2 X0v (Q5j p.vendor (by omega)) <| hk0) v0 c0 ?_
    refine Ad ?_
    obtain ⟨b1, hb1⟩ : ∃ b, b = (!(G0 p.vendor)) := ⟨_, rfl⟩
    refine Ah (CS := [(4, ((!b1) = true → (!b1) = true)), (5, ((!b1) = true → (!b1) = true)), (6, ((!b1) = true → (!b1) = true)), (7, (b1 = false → (!b1) = true))]) [34, 35, 36, 37] [1, 38] [] hk0 (vk 3 33 (a := .bool (!(G0 p.vendor))) (b := .bool b1) (Imp.of_eq (by rw [hb1])) <| v0) (by refine cc _ ?_ <| cc _ ?_ <| cc _ ?_ <| cc _ ?_ c0 <;> simp) ?_
    refine Bd (q := b1 || (decide (60 < (p.vendor.length : Int)))) (by kernel_rfl) (fun c4 => ?_) (fun c4 => ?_)
    ·subst hb1
     try simp only [Ao] at c4
     refine Aa [] [2] ?_
     refine Ag ?_
     refine RK wR [(.int .i64 63)] ?_
     refine Same.of_eq ?_
     simp only [Ak]
     congr 1
     rw [← Ju]
     unfold H9
     simp_all
    ·subst hb1
     try simp only [Ao] at c4
     refine Ai ?_
     refine Ah [] [1, 8] [] (hk 1 X0u (Q5o p (by omega)) <| hk0) v0 c0 ?_
     refine Ad ?_
     refine Aa [] [1, 42] ?_
     refine Bd (q := !(Fq p)) (by kernel_rfl) (fun c5 => ?_) (fun c5 => ?_)
     ·try simp only [Ao] at c5
      refine Aa [] [2] ?_
      refine Ag ?_
      refine RK wR [(.int .i64 64)] ?_
      refine Same.of_eq ?_
      simp only [Ak]
      congr 1
      rw [← Ju]
      unfold H9
      simp_all
     ·try simp only [Ao] at c5
      refine Ai ?_
      refine Ah [] [9] [] (hk 2 X0t (Q5n p.files (by omega)) <| hk0) v0 c0 ?_
      refine Ad ?_
      refine Aa [] [47] ?_
      refine Bd (q := !(Ig p.files)) (by kernel_rfl) (fun c6 => ?_) (fun c6 => ?_)
      ·try simp only [Ao] at c6
       refine Aa [] [2] ?_
       refine Ag ?_
       refine RK wR [(.int .i64 65)] ?_
       refine Same.of_eq ?_
       simp only [Ak]
       congr 1
       rw [← Ju]
       unfold H9
       simp_all
      ·try simp only [Ao] at c6
       refine Ai ?_
       refine Aa [] [2] ?_
       refine Ag ?_
       refine RK wR [(.int .i64 0)] ?_
       refine Same.of_eq ?_
       simp only [Ak]
       congr 1
       rw [← Ju]
       unfold H9
       simp_all
end Sv
end Go.Proofs.YtlmloohlmlahfaaGreatDoor
end
