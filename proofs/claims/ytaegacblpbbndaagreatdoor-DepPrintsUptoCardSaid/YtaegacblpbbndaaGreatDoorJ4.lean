/- The texts S22, S23, DepV, Dep24, SortV, Dep25, NameP, Dep26, OpenV of the proof, joined. Each says at its theorems what it proves. -/
import Derived.Test.YtaegacblpbbndaaGreatDoorJ3
import Derived.Sort.OwnSorted
set_option linter.unusedSimpArgs false
set_option linter.unusedVariables false
section
namespace Go.Proofs.YtaegacblpbbndaaGreatDoor
open Go Go.RowKit
set_option linter.unusedSimpArgs false
set_option linter.unusedVariables false
namespace Sv
noncomputable def stillS (P : Program) (t : Nat) (x : St) : Option St := match look t x.s with
  | some a => match frzV P x.h a with
    | some (r, h) => some ⟨setL t r x.s, h, x.nx⟩
    | none => none
  | none => none
section
variable {P : Program} {B : Bas} {w : World} {F F0 : Cx} {n : Nat} {φ : Phi} {σ : Nat → Value} {K : Exit → St → Prop} {x y : St} {ops : Array Oper}
theorem Holds.still {t : Nat} (h : Holds B F n x φ σ w) (k : stillS P t x = some y) : ∃ φ', Holds B F n y φ' σ w := by
  unfold stillS at k
  split at k
  · rename_i a ha
    split at k
    · rename_i r hh hr
      cases k
      obtain ⟨F', f1, f2, f3, f4⟩ := frzV_ok hr B φ w _ h.rel (VRl.single (h.fr _ _ ha))
      obtain ⟨v, hv, f5⟩ := f4.single_inv
      cases hv
      refine ⟨⟨φ.m, φ.s, F'⟩, fun u c e => ?_, f3, h.dom, fun b o e => f1 _ _ (h.old b o e), fun b o e => (f2 b o e).elim (h.new b o) .inr, h.base⟩
      by_cases hu : u = t
      · subst hu; rw [look_set_same] at e; cases e; exact f5.mono (Phi.le_fz ⟨φ.m, φ.s, F'⟩)
      · rw [look_set_other _ hu] at e; exact (h.fr u c e).mono (leF f1)
    · cases k
  · cases k
theorem SW_still {c : Code} (t : Nat) (k : stillS P t x = some y) (h : SW P n c B F K y) : SW P n c B F K x := fun φ σ w hx => by
  obtain ⟨φ', hh⟩ := hx.still k
  exact h _ _ _ hh
theorem SO_still {l : List Oper} (t : Nat) (k : stillS P t x = some y) (h : SO P n ops l B F K y) : SO P n ops l B F K x := fun φ σ w hx => by
  obtain ⟨φ', hh⟩ := hx.still k
  exact h _ _ _ hh
end
theorem Imp.list {α : Type} [Inhabited α] {sz : Nat} {f : α → AV} {l : List α} {n : Nat} (hn : n = l.length) : Imp (.row sz n (fun i => (l.map f).getD i junk)) (rowOf sz f l) := by
  subst hn
  refine Imp.row fun i hi => Imp.of_eq ?_
  simp only [List.getD_eq_getElem?_getD, List.getElem?_map, nth, List.getElem?_eq_getElem hi, Option.map_some, Option.getD_some]
theorem Imp.refl {a : AV} : Imp a a := fun _ _ k => k
theorem Imp.trans {a b c : AV} (h : Imp a b) (k : Imp b c) : Imp a c := fun φ v q => k φ v (h φ v q)
end Sv
end Go.Proofs.YtaegacblpbbndaaGreatDoor
end
section
namespace Go.Proofs.YtaegacblpbbndaaGreatDoor
open Go Go.RowKit
set_option linter.unusedSimpArgs false
set_option linter.unusedVariables false
namespace Sv
section
variable {P : Program} {n : Nat} {ops : Array Oper} {Q : (Nat → Value) → World → Prop} {fuel : Nat} {listed : Array Bool} {H : World → Prop} {σ : Nat → Value} {w : World}
def Next (P : Program) (n : Nat) (ops : Array Oper) (Q : (Nat → Value) → World → Prop) (H : World → Prop) (fuel : Nat) (listed : Array Bool) (i : Nat) (σ : Nat → Value) (w : World) : Prop :=
  ∃ o, ops[i]? = some o ∧ WO P n ops [o] (fun e σ' w' => e = .normal ∧ H w' ∧ WG P n ops Q H fuel (listed.setIfInBounds i true) σ' w') σ w
theorem WG_each {l : List Nat} (hr : Region.ready .any ops listed = l) (hl : l ≠ []) (h : ∀ i ∈ l, Next P n ops Q H fuel listed i σ w) : WG P n ops Q H (fuel + 1) listed σ w := by
  unfold WG
  refine wpAnyH_all hr hl fun j hj => ?_
  obtain ⟨o, hi, h⟩ := h j hj
  unfold WO wpList at h
  unfold wpOp
  simp only [hi]
  have ho : ¬ LetsOut (lift n fun e σ' w' => e = .normal ∧ H w' ∧ WG P n ops Q H fuel (listed.setIfInBounds j true) σ' w') := by
    rintro ⟨a, w, σ', _, h, _⟩; cases h
  have hk : ∀ a w', wpList P ops (lift n fun e σ' w' => e = .normal ∧ H w' ∧ WG P n ops Q H fuel (listed.setIfInBounds j true) σ' w') [] a w' →
      (H w' ∧ wpAnyH P .any ops (fun e a w => e = .normal ∧ ∃ σ, a = mk n σ ∧ Q σ w) H fuel (listed.setIfInBounds j true) a w') := by
    rintro a w' ⟨σ', rfl, _, hb, hx⟩
    unfold WG at hx
    exact ⟨hb, hx⟩
  split at h
  · rename_i hw
    rw [if_pos hw]
    rcases h with h | ⟨_, h⟩
    · exact .inl (wp_two hk (fun c a w hc => by obtain ⟨_, _, hc, _⟩ := hc; cases hc) ho h)
    · exact absurd h ho
  · rename_i hw
    rw [if_neg hw]; exact hk _ _ h
end
def SN (P : Program) (n : Nat) (ops : Array Oper) (B : Bas) (F : Cx) (K : St → Prop) (F0 : Cx) (E : Bool) (fuel : Nat) (listed : Array Bool) (i : Nat) (x : St) : Prop :=
  ∀ φ σ w, Holds B F0 n x φ σ w → (E = true → φ.f = F0.f) → Next P n ops (fun σ w => ∃ y φ, Holds B F0 n y φ σ w ∧ K y) (Fro F0.f) fuel listed i σ w
section
variable {P : Program} {B : Bas} {w : World} {F F0 : Cx} {n : Nat} {φ : Phi} {σ : Nat → Value} {KK : St → Prop} {x : St} {E : Bool} {ops : Array Oper} {fuel : Nat} {listed : Array Bool}
theorem SG_two (i j : Nat) (hr : Region.ready .any ops listed = [i, j]) (h1 : SN P n ops B F KK F0 E fuel listed i x) (h2 : SN P n ops B F KK F0 E fuel listed j x) : SG P n ops B F KK F0 E (fuel + 1) listed x := by
  unfold SG
  intro φ σ w hx hE
  refine WG_each hr (by simp) fun k hk => ?_
  rcases (by simpa using hk : k = i ∨ k = j) with rfl | rfl
  · exact h1 φ σ w hx hE
  · exact h2 φ σ w hx hE
theorem SN_only (i : Nat) (lz : List Nat) {o : Oper} {y : St} {C : Option Prop} (hi : ops[i]? = some o) (h : stepS P n ops lz o x = some (y, C)) (hC : holds C)
    (next : SG P n ops B F KK F0 E fuel (listed.setIfInBounds i true) y) : SN P n ops B F KK F0 E fuel listed i x := by
  intro φ σ w hx hE
  refine ⟨o, hi, stepS_ok hx h hC fun φ' σ' w' hh e => WO_nil ⟨rfl, hh.hold, ?_⟩⟩
  unfold SG at next
  exact next φ' σ' w' hh (fun q => e.trans (hE q))
theorem SN_call (i : Nat) {f : FuncId} {ar : Array Operand} {ts : Array TypeId} {ty : TypeId} {ps : String} {dst : Option Tmp} {af : Array Edge} {g : Option (Nat × Bool)} {al : List AV} {r : AV} {s' : Fr}
    (hi : ops[i]? = some ⟨dst, .call { callee := .value (.func f), args := ar, argTypes := ts }, ty, ps, af, g⟩)
    (hg : guardS ops x.s g = true) (he : Enters P f) (ha : evsA (evA x.s) ar.toList = some al) (hz : frzl al = true) (hf : FnV P f al r) (hp : putF n dst r x.s = some s')
    (next : SG P n ops B F KK F0 false fuel (listed.setIfInBounds i true) ⟨s', x.h, x.nx⟩) : SN P n ops B F KK F0 E fuel listed i x := by
  intro φ σ w hx hE
  refine ⟨_, hi, ?_⟩
  have hv := (evsA_ok hx.fr.ev ha).fz hz
  refine WO_call (guardS_ok hx.fr hg) he (hf φ.f w _ hx.rel.fro hv) ?_
  rintro v w' ⟨hb, F', h1, h2, h3, h4⟩
  have hh := hx.called hb h1 h2 h3
  have hh' : Holds B F0 n ⟨s', x.h, x.nx⟩ ⟨φ.m, φ.s, F'⟩ (updo σ dst v) w' := ⟨hh.fr.put hp (h4.mono (Phi.le_fz ⟨φ.m, φ.s, F'⟩)), hh.rel, hh.dom, hh.old, hh.new, hh.base⟩
  unfold SG at next
  exact WO_nil ⟨rfl, hh'.hold, next _ _ _ hh' (fun q => by cases q)⟩
theorem SN_callg (i : Nat) {f : FuncId} {ar : Array Operand} {ts : Array TypeId} {ty : TypeId} {ps : String} {dst : Option Tmp} {af : Array Edge} {g : Option (Nat × Bool)} {al : List AV} {r : AV} {s' : Fr} {q : Bool}
    (hi : ops[i]? = some ⟨dst, .call { callee := .value (.func f), args := ar, argTypes := ts }, ty, ps, af, g⟩)
    (hg : guardB ops x.s g = some q) (he : Enters P f) (ha : evsA (strip ar.toList (evA x.s)) ar.toList = some al) (hn : q = true → holds (needs (evA x.s) ar.toList)) (hz : frzl al = true) (hf : q = true → FnV P f al r) (hp : putF n dst (.cond q r) x.s = some s')
    (next : SG P n ops B F KK F0 false fuel (listed.setIfInBounds i true) ⟨s', x.h, x.nx⟩) : SN P n ops B F KK F0 E fuel listed i x := by
  intro φ σ w hx hE
  refine ⟨_, hi, ?_⟩
  unfold SG at next
  have hgk := guardB_ok hx.fr hg
  cases q with
  | false =>
    have hh' : Holds B F0 n ⟨s', x.h, x.nx⟩ φ (updo σ dst undef) w := ⟨hx.fr.put hp (by simp only [VR]; intro e; cases e), hx.rel, hx.dom, hx.old, hx.new, hx.base⟩
    exact WO_pass hgk (WO_nil ⟨rfl, hx.hold, next φ _ w hh' (fun q => by cases q)⟩)
  | true =>
    have hv := (evsA_ok (strip_ev hx.fr (hn rfl)) ha).fz hz
    refine WO_call hgk he (hf rfl φ.f w _ hx.rel.fro hv) ?_
    rintro v w' ⟨hb, F', h1, h2, h3, h4⟩
    have hh := hx.called hb h1 h2 h3
    have hh' : Holds B F0 n ⟨s', x.h, x.nx⟩ ⟨φ.m, φ.s, F'⟩ (updo σ dst v) w' := ⟨hh.fr.put hp (by simp only [VR]; exact fun _ => h4.mono (Phi.le_fz ⟨φ.m, φ.s, F'⟩)), hh.rel, hh.dom, hh.old, hh.new, hh.base⟩
    exact WO_nil ⟨rfl, hh'.hold, next _ _ _ hh' (fun q => by cases q)⟩
theorem SG_one (i : Nat) (hr : Region.ready .any ops listed = [i]) (h1 : SN P n ops B F KK F0 E fuel listed i x) : SG P n ops B F KK F0 E (fuel + 1) listed x := by
  unfold SG
  intro φ σ w hx hE
  refine WG_each hr (by simp) fun k hk => ?_
  rcases (by simpa using hk : k = i) with rfl
  exact h1 φ σ w hx hE
end
theorem VRl.put {φ : Phi} {a : AV} : ∀ {l : List AV} {vs : List Value} {j : Nat} {v : Value}, VRl φ l vs → vs[j]? = some v → VR φ a v → VRl φ (l.set j a) vs
  | [], vs, j, v, h, _, _ => by simpa using h
  | x :: l, vs, 0, v, h, hj, ha => by
    obtain ⟨u, vs', rfl, h1, h2⟩ := h.cons_inv
    simp only [List.getElem?_cons_zero, Option.some.injEq] at hj
    subst hj
    exact .cons ha h2
  | x :: l, vs, j + 1, v, h, hj, ha => by
    obtain ⟨u, vs', rfl, h1, h2⟩ := h.cons_inv
    exact .cons h1 (VRl.put h2 (by simpa using hj) ha)
noncomputable def thawC (e sz b j : Nat) (x : St) : Option St := match getH b x.h with
  | some (.row cs e') => match cs[j]? with
    | some .nils => some ⟨x.s, setH b (.row (cs.set j (.own x.nx)) e') (setH x.nx (.grow [] e sz) x.h), x.nx + 1⟩
    | _ => none
  | _ => none
section
variable {P : Program} {B : Bas} {w : World} {F F0 : Cx} {n : Nat} {φ : Phi} {σ : Nat → Value} {K : Exit → St → Prop} {x y : St} {ops : Array Oper}
theorem Holds.thawC {e sz b j : Nat} (h : Holds B F n x φ σ w) (hsz : Nat.blt 0 sz = true) (k : thawC e sz b j x = some y) : ∃ φ', Holds B F n y φ' σ w := by
  unfold Sv.thawC at k
  split at k
  · rename_i cs e' hb
    split at k
    · rename_i hj
      cases k
      obtain ⟨x0, κ, vs, a1, a2, a3⟩ := h.rel.obj b _ hb
      obtain ⟨v, hvj, hv⟩ := a3.get hj
      obtain ⟨φ1, hle, r1, d1, hs1, hf1⟩ := thawS_ok (e := e) (sz := sz) (a := .nils) (h := x.h) (nx := x.nx) rfl (by simpa [Nat.blt_eq] using hsz) hv h.rel h.dom
      have hne : b ≠ x.nx := by
        rintro rfl
        rw [(h.dom _ (Nat.le_refl _)).1] at a1; cases a1
      have hb1 : getH b (setH x.nx (.grow [] e sz) x.h) = some (.row cs e') := by rw [get_set_other _ hne]; exact hb
      refine ⟨φ1, fun u c q => (h.fr u c q).mono hle, ?_, d1, fun b o q => by rw [hf1]; exact h.old b o q, fun b o q => by rw [hf1] at q; exact h.new b o q, fun b o q => hle.m _ _ (h.base b o q)⟩
      refine r1.add (b := b) (o := .row (cs.set j (.own x.nx)) e') ⟨x0, κ, vs, hle.m _ _ a1, a2, (a3.mono hle).put hvj ?_⟩ ?_
      · simp only [VR]; exact ⟨hs1, hv.slice rfl⟩
      · intro q hq
        have hq' : img φ1 b (.row cs e') = some q := hq
        obtain ⟨g1, g2, g3⟩ := r1.gf b _ q hb1 hq'
        exact ⟨g1, g2, g3, fun c o' hc hg hi => hc (r1.sep c b o' _ q hg hb1 hi hq')⟩
    · cases k
  · cases k
theorem SW_thawC {c : Code} (e sz b j : Nat) (hsz : Nat.blt 0 sz = true) (k : thawC e sz b j x = some y) (h : SW P n c B F K y) : SW P n c B F K x := by
  unfold SW at h ⊢
  intro φ σ w hx
  obtain ⟨φ', hh⟩ := hx.thawC hsz k
  exact h _ _ _ hh
end
section
variable {P : Program} {B : Bas} {w : World} {F F0 : Cx} {n : Nat} {φ : Phi} {σ : Nat → Value} {K : Exit → St → Prop} {x y : St} {ops : Array Oper}
theorem SO_thawC {l : List Oper} (e sz b j : Nat) (hsz : Nat.blt 0 sz = true) (k : thawC e sz b j x = some y) (h : SO P n ops l B F K y) : SO P n ops l B F K x := by
  unfold SO at h ⊢
  intro φ σ w hx
  obtain ⟨φ', hh⟩ := hx.thawC hsz k
  exact h _ _ _ hh
end
theorem Imp.nil {α : Type} [Inhabited α] {sz : Nat} {f : α → AV} : Imp .nils (rowOf sz f []) := by
  intro F v k
  simp only [VR] at k; subst k
  unfold rowOf
  simp only [VR]
  exact ⟨fun _ => undef, fun i hi => absurd hi (by simp), .inl ⟨rfl, .inl rfl⟩⟩
theorem FnV.of_args {P : Program} {f : Nat} {al bl : List AV} {r : AV} (h : FnV P f al r) (k : ∀ φ vs, VRl φ bl vs → VRl φ al vs) : FnV P f bl r := fun F w vs h1 h2 => h F w vs h1 (k _ _ h2)
theorem ImpL.cons {a b : AV} {l m : List AV} (h : Imp a b) (k : ∀ φ vs, VRl φ l vs → VRl φ m vs) : ∀ φ vs, VRl φ (a :: l) vs → VRl φ (b :: m) vs := by
  intro F vs q
  obtain ⟨v, vs', rfl, q1, q2⟩ := q.cons_inv
  exact .cons (h F v q1) (k F vs' q2)
theorem ImpL.nil : ∀ φ vs, VRl φ [] vs → VRl φ [] vs := fun _ _ h => h
end Sv
end Go.Proofs.YtaegacblpbbndaaGreatDoor
end
section
namespace Go.Proofs.YtaegacblpbbndaaGreatDoor
open Go Go.RowKit
set_option linter.unusedSimpArgs false
set_option linter.unusedVariables false
def DepT.name : DepT → List UInt8 | .mk _ nm _ _ _ => nm
def DepT.op : DepT → Int | .mk _ _ op _ _ => op
def DepT.evr : DepT → List UInt8 | .mk _ _ _ ev _ => ev
def DepT.args : DepT → List DepT | .mk _ _ _ _ a => a
namespace Sv
mutual
noncomputable def depV : DepT → AV
  | .mk k nm op ev args => .agg [.int .i64 k, .str nm, .int .i64 op, .str ev, .row 5 args.length (depAt args)]
noncomputable def depAt : List DepT → Nat → AV
  | [], _ => junk
  | d :: _, 0 => depV d
  | _ :: r, i + 1 => depAt r i
end
noncomputable def depX (d : DepT) : AV := .agg [.int .i64 d.kind, .str d.name, .int .i64 d.op, .str d.evr, .row 5 d.args.length (depAt d.args)]
theorem depV_eq (d : DepT) : depV d = depX d := by cases d; unfold depV; rfl
theorem depAt_eq : ∀ {l : List DepT} {i : Nat}, i < l.length → depAt l i = depX (nth l i)
  | [], _, h => by simp at h
  | d :: r, 0, _ => by unfold depAt; exact depV_eq d
  | d :: r, i + 1, h => by
    unfold depAt
    exact depAt_eq (l := r) (by simpa using h)
noncomputable abbrev deps (l : List DepT) : AV := rowOf 5 depX l
theorem deps_of (l : List DepT) : Imp (.row 5 l.length (depAt l)) (deps l) := Imp.row fun i hi => Imp.of_eq (depAt_eq hi)
theorem deps_to (l : List DepT) : Imp (deps l) (.row 5 l.length (depAt l)) := Imp.row fun i hi => Imp.of_eq (depAt_eq hi).symm
theorem VRl.of_imp {a b : AV} {l : List AV} (h : Imp a b) : ∀ {p : List AV} {φ : Phi} {vs : List Value}, VRl φ (p ++ a :: l) vs → VRl φ (p ++ b :: l) vs
  | [], φ, vs, k => by
    obtain ⟨v, vs', rfl, h1, h2⟩ := VRl.cons_inv (a := a) (l := l) k
    exact VRl.cons (h φ v h1) h2
  | x :: p, φ, vs, k => by
    obtain ⟨v, vs', rfl, h1, h2⟩ := VRl.cons_inv (a := x) (l := p ++ a :: l) k
    exact VRl.cons h1 (VRl.of_imp h h2)
theorem Imp.agg {a b : AV} {p l : List AV} (h : Imp a b) : Imp (.agg (p ++ a :: l)) (.agg (p ++ b :: l)) := by
  intro φ v k
  simp only [VR] at k ⊢
  obtain ⟨vs, h1, h2⟩ := k; exact ⟨vs, VRl.of_imp h h1, h2⟩
theorem depX_open (d : DepT) : Imp (depX d) (.agg [.int .i64 d.kind, .str d.name, .int .i64 d.op, .str d.evr, deps d.args]) := Imp.agg (p := [.int .i64 d.kind, .str d.name, .int .i64 d.op, .str d.evr]) (deps_of d.args)
theorem depX_shut (d : DepT) : Imp (.agg [.int .i64 d.kind, .str d.name, .int .i64 d.op, .str d.evr, deps d.args]) (depX d) := Imp.agg (p := [.int .i64 d.kind, .str d.name, .int .i64 d.op, .str d.evr]) (deps_to d.args)
theorem size_nth {d : DepT} {i : Nat} (h : i < d.args.length) : (nth d.args i).size < d.size := by
  cases d with
  | mk k nm op ev args =>
    have := argsSize_nth (l := args) (i := i) h
    show (nth args i).size < (DepT.mk k nm op ev args).size
    simp only [DepT.size]; omega
theorem dep_ind {C : DepT → Prop} (h : ∀ d, (∀ i, i < d.args.length → C (nth d.args i)) → C d) (d : DepT) : C d := by
  have key : ∀ n d, d.size ≤ n → C d := by
    intro n
    induction n with
    | zero => intro d hd; cases d; unfold DepT.size at hd; omega
    | succ n ih => intro d hd; exact h d fun i hi => ih _ (by have := size_nth hi; omega)
  exact key d.size d (Nat.le_refl _)
theorem rowIs_of {F : Nat → Option Obj} {w : World} {sz n : Nat} {u : Nat → Value} {v : Value} (hF : Fro F w) (h : RowAt F sz n u v) (hs : ∀ i, i < n → (u i).cells.size = sz) : RowIs w v n sz ((List.range n).map fun i => (u i).cells.toList).flatten := by
  have hf := range_flat (f := fun i => (u i).cells.toList) n (fun i hi => by rw [Array.length_toList]; exact hs i hi)
  rw [List.flatMap_def] at hf
  refine ⟨hf.1, ?_⟩
  rcases h with ⟨rfl, rfl | ⟨a, c, rfl⟩⟩ | ⟨b, o, c, rfl, _, hl⟩
  · exact .inl ⟨rfl, _, _, rfl⟩
  · exact .inl ⟨rfl, _, _, rfl⟩
  · refine .inr ⟨b, o, c, rfl, fun j x hj => ?_⟩
    obtain ⟨i, k, hi, rfl, hk⟩ := hf.2 j x hj
    rw [← Nat.add_assoc]
    exact lie_cell hF (hl i hi).2 hk
theorem row_sizes {F : Nat → Option Obj} {sz n : Nat} {u : Nat → Value} {v : Value} (h : RowAt F sz n u v) : ∀ i, i < n → (u i).cells.size = sz := by
  rcases h with ⟨rfl, _⟩ | ⟨b, o, c, rfl, _, hl⟩
  · intro i hi; omega
  · exact fun i hi => (hl i hi).1
theorem args_list {w : World} : ∀ {l : List DepT} {f : Nat → List Value}, (∀ i, i < l.length → DepC w (nth l i) (f i)) → ArgsC w l ((List.range l.length).map f)
  | [], f, _ => by unfold ArgsC; rfl
  | d :: r, f, h => by
    unfold ArgsC
    refine ⟨f 0, (List.range r.length).map fun i => f (i + 1), ?_, h 0 (by simp), args_list fun i hi => h (i + 1) (by simpa using hi)⟩
    rw [List.length_cons, List.range_succ_eq_map, List.map_cons, List.map_map]; rfl
theorem depC_of {F : Nat → Option Obj} {w : World} (hF : Fro F w) (d : DepT) : ∀ v, VR (ofF F) (depX d) v → ∃ cs, v = .agg cs.toArray ∧ DepC w d cs := by
  refine dep_ind (C := fun d => ∀ v, VR (ofF F) (depX d) v → ∃ cs, v = .agg cs.toArray ∧ DepC w d cs) (fun d ih => ?_) d
  intro v hv
  have hv := depX_open d _ _ hv
  simp only [VR] at hv
  obtain ⟨vs, h1, rfl⟩ := hv
  obtain ⟨v0, r0, rfl, e0, h1⟩ := h1.cons_inv
  obtain ⟨v1, r1, rfl, e1, h1⟩ := h1.cons_inv
  obtain ⟨v2, r2, rfl, e2, h1⟩ := h1.cons_inv
  obtain ⟨v3, r3, rfl, e3, h1⟩ := h1.cons_inv
  obtain ⟨v4, r4, rfl, e4, h1⟩ := h1.cons_inv
  rw [h1.nil_inv]
  simp only [VR] at e0 e1 e2 e3
  subst e0 e1 e2 e3
  simp only [deps, rowOf, VR] at e4
  obtain ⟨u, hu, hr⟩ := e4
  have hsz := row_sizes hr
  refine ⟨_, rfl, ?_⟩
  have hd : d = .mk d.kind d.name d.op d.evr d.args := by cases d; rfl
  rw [hd]; unfold DepC
  refine ⟨v4, (List.range d.args.length).map fun i => (u i).cells.toList, rfl, rowIs_of hF hr hsz, args_list fun i hi => ?_⟩
  obtain ⟨cs, q1, q2⟩ := ih i hi (u i) (hu i hi)
  rw [q1]; simpa [Value.cells] using q2
theorem FnV.of_dep {P : Program} {f : Nat} {d : DepT} {r : AV} {rv : Value} (hr : ∀ F, VR (ofF F) r rv) (h : ∀ (w : World) (cs : List Value), DepC w d cs → Calls P f #[.agg cs.toArray] w (Ret fun v w' => v = rv ∧ Below w.heap.size w w')) : FnV P f [depX d] r := by
  intro F w vs hF hv
  obtain ⟨v, rfl, hv1⟩ := hv.single_inv; clear hv; have hv := hv1
  obtain ⟨cs, rfl, hd⟩ := depC_of hF d v hv
  refine (h w cs hd).mono ?_
  rintro e w' ⟨v, he, rfl, hb⟩
  exact ⟨v, he, hb, F, fun _ _ e => e, fun b o e => (hb.block b (block_lt (hF b o e))).trans (hF b o e), fun _ _ e => .inl e, hr F⟩
theorem FnV.of_dep2 {P : Program} {f : Nat} {d d' : DepT} {r : AV} {rv : Value} (hr : ∀ F, VR (ofF F) r rv) (h : ∀ (w : World) (cs cs' : List Value), DepC w d cs → DepC w d' cs' → Calls P f #[.agg cs.toArray, .agg cs'.toArray] w (Ret fun v w' => v = rv ∧ Below w.heap.size w w')) : FnV P f [depX d, depX d'] r := by
  intro F w vs hF hv
  obtain ⟨v, vs', rfl, h1, h2⟩ := hv.cons_inv
  obtain ⟨v', rfl, h3⟩ := h2.single_inv; clear h2; have h2 := h3
  obtain ⟨cs, rfl, hd⟩ := depC_of hF d v h1
  obtain ⟨cs', rfl, hd'⟩ := depC_of hF d' v' h2
  refine (h w cs cs' hd hd').mono ?_
  rintro e w' ⟨v, he, rfl, hb⟩
  exact ⟨v, he, hb, F, fun _ _ e => e, fun b o e => (hb.block b (block_lt (hF b o e))).trans (hF b o e), fun _ _ e => .inl e, hr F⟩
theorem FnV.of_none {P : Program} {f : Nat} {r : AV} {rv : Value} (hr : ∀ F, VR (ofF F) r rv) (h : ∀ (w : World), Calls P f #[] w (Ret fun v w' => v = rv ∧ Below w.heap.size w w')) : FnV P f [] r := by
  intro F w vs hF hv
  rw [hv.nil_inv]
  refine (h w).mono ?_
  rintro e w' ⟨v, he, rfl, hb⟩
  exact ⟨v, he, hb, F, fun _ _ e => e, fun b o e => (hb.block b (block_lt (hF b o e))).trans (hF b o e), fun _ _ e => .inl e, hr F⟩
end Sv
end Go.Proofs.YtaegacblpbbndaaGreatDoor
end
section
namespace Go.Proofs.YtaegacblpbbndaaGreatDoor
open Go Go.RowKit
namespace Sv
attribute [local irreducible] SW SO
theorem en_35 : Enters Tryz.prog 35 := enters_of Tryz.func35 (by kernel_rfl) rfl
theorem en_36 : Enters Tryz.prog 36 := enters_of Tryz.func36 (by kernel_rfl) rfl
theorem en_17 : Enters Tryz.prog 17 := enters_of Tryz.func17 (by kernel_rfl) rfl
theorem en_13 : Enters Tryz.prog 13 := enters_of Tryz.func13 (by kernel_rfl) rfl
theorem en_7 : Enters Tryz.prog 7 := enters_of Tryz.func7 (by kernel_rfl) rfl
theorem en_5 : Enters Tryz.prog 5 := enters_of Tryz.func5 (by kernel_rfl) rfl
theorem en_39 : Enters Tryz.prog 39 := enters_of Tryz.func39 (by kernel_rfl) rfl
theorem en_22 : Enters Tryz.prog 22 := enters_of Tryz.func22 (by kernel_rfl) rfl
theorem en_10 : Enters Tryz.prog 10 := enters_of Tryz.func10 (by kernel_rfl) rfl
def betwL (k i : Int) : List UInt8 := if k = 2 then [32, 97, 110, 100, 32] else if k = 3 then [32, 111, 114, 32] else if k = 5 then [32, 119, 105, 116, 104, 32] else if k = 6 then [32, 119, 105, 116, 104, 111, 117, 116, 32] else if i = 1 then [32, 105, 102, 32] else [32, 101, 108, 115, 101, 32]
theorem betw_sep {k : Int} {i : Nat} (h2 : 2 ≤ k) (h6 : k ≤ 6) (hi : 0 < i) (h4 : k = 4 → i ≤ 2) : betwL k i = sepN k i := by
 unfold sepN wordN
 rw [if_pos hi]
 have : k = 2 ∨ k = 3 ∨ k = 4 ∨ k = 5 ∨ k = 6 := by omega
 rcases this with rfl | rfl | rfl | rfl | rfl
 ·rfl
 ·rfl
 ·have := h4 rfl
  by_cases h : i = 1
  ·subst h; rfl
  ·have : i = 2 := by omega
   subst this; rfl
 ·rfl
 ·rfl
theorem betw_len (k i : Int) : (betwL k i).length ≤ 9 := by
 unfold betwL
 repeat' split
 all_goals decide
set_option maxHeartbeats 400000 in
set_option maxRecDepth 100000 in
theorem refSign_any (op : Int) :
  FnV Tryz.prog 35 [(.int .i64 op)] (.str (if op < 0 ∨ 7 < op then [] else nth signsL op.toNat)) := by
 refine FnV_intro [.tmp 2] Tryz.func35 rfl Tryz.ntmps35 rfl rfl (fun B F hF => ?_)
 refine SW_seq ?_
 refine SW_reg ?_
 refine SO_all [] [0] (y := ⟨[(0, (.int .i64 op))], [], 0⟩) (C := none) (by kernel_rfl) hold0 ?_
 refine SW_seq ?_
 refine SW_reg ?_
 refine SO_all [] [0, 3] (y := ⟨[(0, (.int .i64 op)), (3, (.sl 0 0 8 8 false))], [(0, (.row [(.str []), (.str ([60])), (.str ([61])), (.str ([60, 61])), (.str ([62])), (.str ([60, 62])), (.str ([62, 61])), (.str ([60, 61, 62]))] 9))], 1⟩) (C := none) (by kernel_rfl) hold0 ?_
 refine SW_seq ?_
 refine SW_seq ?_
 refine SW_reg ?_
 refine SO_all [8, 9] [0, 3, 10] (y := ⟨[(0, (.int .i64 op)), (3, (.sl 0 0 8 8 false)), (10, (.bool ((decide (op < 0)) || (decide (7 < op)))))], [(0, (.row [(.str []), (.str ([60])), (.str ([61])), (.str ([60, 61])), (.str ([62])), (.str ([60, 62])), (.str ([62, 61])), (.str ([60, 61, 62]))] 9))], 1⟩) (C := some (((!(decide (op < 0))) = true → (!(decide (op < 0))) = true) ∧ ((decide (op < 0)) = false → (!(decide (op < 0))) = true))) (by kernel_rfl) (hold (by first | omega | (simp; omega) | (simp; done) | (intros; simp_all; omega) | (intros; simp_all; done))) ?_
 refine SW_cond (q := (decide (op < 0)) || (decide (7 < op))) rfl (fun c1 => ?_) (fun c1 => ?_)
 ·try simp only [Bool.and_eq_true, Bool.or_eq_true, Bool.and_eq_false_iff, Bool.or_eq_false_iff, Bool.not_eq_true', Bool.not_eq_false', decide_eq_true_eq, decide_eq_false_iff_not] at c1
  refine SW_seq ?_
  refine SW_reg ?_
  refine SO_all [] [2] (y := ⟨[(2, (.str []))], [(0, (.row [(.str []), (.str ([60])), (.str ([61])), (.str ([60, 61])), (.str ([62])), (.str ([60, 62])), (.str ([62, 61])), (.str ([60, 61, 62]))] 9))], 1⟩) (C := none) (by kernel_rfl) hold0 ?_
  refine SW_ret ?_
  refine retK_mk (.inl rfl) (al := [(.str [])]) (by kernel_rfl) (rl := [(.str [])]) (h' := [(0, (.row [(.str []), (.str ([60])), (.str ([61])), (.str ([60, 61])), (.str ([62])), (.str ([60, 62])), (.str ([62, 61])), (.str ([60, 61, 62]))] 9))]) (by kernel_rfl) ?_
  exact Same.of_eq (by rw [if_pos (by omega)]; rfl)
 ·try simp only [Bool.and_eq_true, Bool.or_eq_true, Bool.and_eq_false_iff, Bool.or_eq_false_iff, Bool.not_eq_true', Bool.not_eq_false', decide_eq_true_eq, decide_eq_false_iff_not] at c1
  refine SW_skip ?_
  refine SW_seq ?_
  refine SW_reg ?_
  refine SO_run 2 [] [11, 12] (y := ⟨[(11, (.sl 0 0 8 8 false)), (12, (.int .i64 op))], [(0, (.row [(.str []), (.str ([60])), (.str ([61])), (.str ([60, 61])), (.str ([62])), (.str ([60, 62])), (.str ([62, 61])), (.str ([60, 61, 62]))] 9))], 1⟩) (C := none) (by kernel_rfl) hold0 ?_
  refine SO_still 11 (y := ⟨[(11, (.row 1 8 (fun ix => (chunk 1 8 [(.str []), (.str ([60])), (.str ([61])), (.str ([60, 61])), (.str ([62])), (.str ([60, 62])), (.str ([62, 61])), (.str ([60, 61, 62]))]).getD ix junk))), (12, (.int .i64 op))], [], 1⟩) (by kernel_rfl) ?_
  refine SO_conv 11 (strs ([[], [60], [61], [60, 61], [62], [60, 62], [62, 61], [60, 61, 62]])) (by kernel_rfl) (Imp.list (f := AV.str) rfl) ?_
  refine SO_all [] [2] (y := ⟨[(2, (.str (nth ([[], [60], [61], [60, 61], [62], [60, 62], [62, 61], [60, 61, 62]]) ((op : Int).toNat))))], [], 1⟩) (C := some ((0 ≤ op ∧ (op : Int).toNat < ([[], [60], [61], [60, 61], [62], [60, 62], [62, 61], [60, 61, 62]]).length))) (by kernel_rfl) (hold (by first | omega | (simp; omega) | (simp; done) | (intros; simp_all; omega) | (intros; simp_all; done))) ?_
  refine SW_ret ?_
  refine retK_mk (.inl rfl) (al := [(.str (nth ([[], [60], [61], [60, 61], [62], [60, 62], [62, 61], [60, 61, 62]]) ((op : Int).toNat)))]) (by kernel_rfl) (rl := [(.str (nth ([[], [60], [61], [60, 61], [62], [60, 62], [62, 61], [60, 61, 62]]) ((op : Int).toNat)))]) (h' := []) (by kernel_rfl) ?_
  exact Same.of_eq (by rw [if_neg (by omega)]; rfl)
set_option maxHeartbeats 400000 in
set_option maxRecDepth 100000 in
theorem refBetween_any (k i : Int) :
  FnV Tryz.prog 36 [(.int .i64 k), (.int .i64 i)] (.str (betwL k i)) := by
 refine FnV_intro [.tmp 4] Tryz.func36 rfl Tryz.ntmps36 rfl rfl (fun B F hF => ?_)
 refine SW_seq ?_
 refine SW_reg ?_
 refine SO_all [] [0, 1] (y := ⟨[(0, (.int .i64 k)), (1, (.int .i64 i))], [], 0⟩) (C := none) (by kernel_rfl) hold0 ?_
 refine SW_seq ?_
 refine SW_seq ?_
 refine SW_reg ?_
 refine SO_all [] [1, 5] (y := ⟨[(1, (.int .i64 i)), (5, (.int .i64 k))], [], 0⟩) (C := none) (by kernel_rfl) hold0 ?_
 refine SW_block ?_
 refine SW_seq ?_
 refine SW_reg ?_
 refine SO_all [] [1, 5, 6] (y := ⟨[(1, (.int .i64 i)), (5, (.int .i64 k)), (6, (.bool (decide (k = 2))))], [], 0⟩) (C := none) (by kernel_rfl) hold0 ?_
 refine SW_if (p := k = 2) rfl (fun c1 => ?_) (fun c1 => ?_)
 ·refine SW_seq ?_
  refine SW_reg ?_
  refine SO_all [] [4] (y := ⟨[(4, (.str ([32, 97, 110, 100, 32])))], [], 0⟩) (C := none) (by kernel_rfl) hold0 ?_
  refine SW_ret ?_
  refine retK_mk (.inl rfl) (al := [(.str ([32, 97, 110, 100, 32]))]) (by kernel_rfl) (rl := [(.str ([32, 97, 110, 100, 32]))]) (h' := []) (by kernel_rfl) ?_
  exact Same.of_eq (by simp only [pack]; congr 1; unfold betwL; simp [*])
 ·refine SW_seq ?_
  refine SW_reg ?_
  refine SO_all [] [1, 5, 8] (y := ⟨[(1, (.int .i64 i)), (5, (.int .i64 k)), (8, (.bool (decide (k = 3))))], [], 0⟩) (C := none) (by kernel_rfl) hold0 ?_
  refine SW_if (p := k = 3) rfl (fun c2 => ?_) (fun c2 => ?_)
  ·refine SW_seq ?_
   refine SW_reg ?_
   refine SO_all [] [4] (y := ⟨[(4, (.str ([32, 111, 114, 32])))], [], 0⟩) (C := none) (by kernel_rfl) hold0 ?_
   refine SW_ret ?_
   refine retK_mk (.inl rfl) (al := [(.str ([32, 111, 114, 32]))]) (by kernel_rfl) (rl := [(.str ([32, 111, 114, 32]))]) (h' := []) (by kernel_rfl) ?_
   exact Same.of_eq (by simp only [pack]; congr 1; unfold betwL; simp [*])
  ·refine SW_seq ?_
   refine SW_reg ?_
   refine SO_all [] [1, 5, 10] (y := ⟨[(1, (.int .i64 i)), (5, (.int .i64 k)), (10, (.bool (decide (k = 5))))], [], 0⟩) (C := none) (by kernel_rfl) hold0 ?_
   refine SW_if (p := k = 5) rfl (fun c3 => ?_) (fun c3 => ?_)
   ·refine SW_seq ?_
    refine SW_reg ?_
    refine SO_all [] [4] (y := ⟨[(4, (.str ([32, 119, 105, 116, 104, 32])))], [], 0⟩) (C := none) (by kernel_rfl) hold0 ?_
    refine SW_ret ?_
    refine retK_mk (.inl rfl) (al := [(.str ([32, 119, 105, 116, 104, 32]))]) (by kernel_rfl) (rl := [(.str ([32, 119, 105, 116, 104, 32]))]) (h' := []) (by kernel_rfl) ?_
    exact Same.of_eq (by simp only [pack]; congr 1; unfold betwL; simp [*])
   ·refine SW_seq ?_
    refine SW_reg ?_
    refine SO_all [] [1, 12] (y := ⟨[(1, (.int .i64 i)), (12, (.bool (decide (k = 6))))], [], 0⟩) (C := none) (by kernel_rfl) hold0 ?_
    refine SW_if (p := k = 6) rfl (fun c4 => ?_) (fun c4 => ?_)
    ·refine SW_seq ?_
     refine SW_reg ?_
     refine SO_all [] [4] (y := ⟨[(4, (.str ([32, 119, 105, 116, 104, 111, 117, 116, 32])))], [], 0⟩) (C := none) (by kernel_rfl) hold0 ?_
     refine SW_ret ?_
     refine retK_mk (.inl rfl) (al := [(.str ([32, 119, 105, 116, 104, 111, 117, 116, 32]))]) (by kernel_rfl) (rl := [(.str ([32, 119, 105, 116, 104, 111, 117, 116, 32]))]) (h' := []) (by kernel_rfl) ?_
     exact Same.of_eq (by simp only [pack]; congr 1; unfold betwL; simp [*])
    ·refine SW_skip ?_
     refine SW_seq ?_
     refine SW_seq ?_
     refine SW_reg ?_
     refine SO_all [] [15] (y := ⟨[(15, (.bool (decide (i = 1))))], [], 0⟩) (C := none) (by kernel_rfl) hold0 ?_
     refine SW_if (p := i = 1) rfl (fun c5 => ?_) (fun c5 => ?_)
     ·refine SW_seq ?_
      refine SW_reg ?_
      refine SO_all [] [4] (y := ⟨[(4, (.str ([32, 105, 102, 32])))], [], 0⟩) (C := none) (by kernel_rfl) hold0 ?_
      refine SW_ret ?_
      refine retK_mk (.inl rfl) (al := [(.str ([32, 105, 102, 32]))]) (by kernel_rfl) (rl := [(.str ([32, 105, 102, 32]))]) (h' := []) (by kernel_rfl) ?_
      exact Same.of_eq (by simp only [pack]; congr 1; unfold betwL; simp [*])
     ·refine SW_skip ?_
      refine SW_seq ?_
      refine SW_reg ?_
      refine SO_all [] [4] (y := ⟨[(4, (.str ([32, 101, 108, 115, 101, 32])))], [], 0⟩) (C := none) (by kernel_rfl) hold0 ?_
      refine SW_ret ?_
      refine retK_mk (.inl rfl) (al := [(.str ([32, 101, 108, 115, 101, 32]))]) (by kernel_rfl) (rl := [(.str ([32, 101, 108, 115, 101, 32]))]) (h' := []) (by kernel_rfl) ?_
      exact Same.of_eq (by simp only [pack]; congr 1; unfold betwL; simp [*])
theorem sgn_len (op : Int) : (if op < 0 ∨ 7 < op then ([] : List UInt8) else nth signsL op.toNat).length ≤ 3 := by
 split
 ·decide
 ·exact sign_len _
theorem textN_n0 {d : DepT} (h1 : d.kind = 1) (h2 : d.op = 0) : textN d = d.name := by
 cases d with
 | mk k nm op ev args =>
  have h1 : k = 1 := h1
  have h2 : op = 0 := h2
  subst h1 h2; unfold textN; rfl
theorem textN_n1 {d : DepT} (h1 : d.kind = 1) (h2 : 0 < d.op) : textN d = d.name ++ [32] ++ nth signsL d.op.toNat ++ [32] ++ d.evr := by
 cases d with
 | mk k nm op ev args =>
  have h1 : k = 1 := h1
  have h2 : 0 < op := h2
  unfold textN; rw [if_pos h1, if_pos h2]; simp only [DepT.name, DepT.op, DepT.evr, List.append_assoc]
theorem textN_na {d : DepT} (h1 : ¬ d.kind = 1) : textN d = [40] ++ joinN d.kind 0 d.args ++ [41] := by
 cases d with
 | mk k nm op ev args =>
  have h1 : ¬ k = 1 := h1
  unfold textN; rw [if_neg h1]; rfl
theorem form_n {d : DepT} (h : formB d = true) (h1 : d.kind = 1) : 0 ≤ d.op ∧ d.op ≤ 7 := by
 cases d; have := form_nm h h1; exact ⟨this.1, this.2.1⟩
theorem form_a {d : DepT} (h : formB d = true) (h1 : ¬ d.kind = 1) : 2 ≤ d.kind ∧ d.kind ≤ 6 ∧ (d.kind = 4 → d.args.length ≤ 3) ∧ argsForm d.kind d.args = true := by
 cases d; have := form_args h h1; exact ⟨this.1, this.2.1, this.2.2.2.2.2.2.1, this.2.2.2.2.2.2.2.2⟩
theorem args_le : ∀ l : List DepT, l.length ≤ argsSize l
 | [] => Nat.zero_le _
 | d :: r => by
  have := args_le r
  have : 1 ≤ d.size := by cases d; simp only [DepT.size]; omega
  simp only [argsSize, List.length_cons]; omega
theorem size_parts (d : DepT) : argsSize d.args + 1 + d.name.length + d.evr.length = d.size := by cases d; simp only [DepT.size, DepT.args, DepT.name, DepT.evr]
set_option maxHeartbeats 400000 in
set_option maxRecDepth 100000 in
theorem refText_step (d : DepT) (hf : formB d = true) (hs : d.size ≤ 4194304) (ih : ∀ i, i < d.args.length → FnV Tryz.prog 17 [depX (nth d.args i)] (.str (textN (nth d.args i)))) :
  FnV Tryz.prog 17 [(.agg [(.int .i64 d.kind), (.str d.name), (.int .i64 d.op), (.str d.evr), (.row 5 d.args.length (depAt d.args))])] (.str (textN d)) := by
 have hz := size_parts d
 have hsg := sgn_len d.op
 have hal := args_le d.args
 refine FnV_intro [.tmp 2] Tryz.func17 rfl Tryz.ntmps17 rfl rfl (fun B F hF => ?_)
 refine SW_seq ?_
 refine SW_reg ?_
 refine SO_run 1 [] [1] (y := ⟨[(1, (.ptr 0 0))], [(0, (.row [(.int .i64 d.kind), (.str d.name), (.int .i64 d.op), (.str d.evr), (.row 5 d.args.length (depAt d.args))] 24))], 1⟩) (C := none) (by kernel_rfl) hold0 ?_
 refine SO_still 1 (y := ⟨[(1, (.fp (.agg [(.int .i64 d.kind), (.str d.name), (.int .i64 d.op), (.str d.evr), (.row 5 d.args.length (depAt d.args))])))], [], 1⟩) (by kernel_rfl) ?_
 refine SO_all [] [1] (y := ⟨[(1, (.fp (.agg [(.int .i64 d.kind), (.str d.name), (.int .i64 d.op), (.str d.evr), (.row 5 d.args.length (depAt d.args))])))], [], 1⟩) (C := none) (by kernel_rfl) hold0 ?_
 refine SW_seq ?_
 refine SW_seq ?_
 refine SW_reg ?_
 refine SO_all [] [1, 7] (y := ⟨[(1, (.fp (.agg [(.int .i64 d.kind), (.str d.name), (.int .i64 d.op), (.str d.evr), (.row 5 d.args.length (depAt d.args))]))), (7, (.bool (decide (d.kind = 1))))], [], 1⟩) (C := none) (by kernel_rfl) hold0 ?_
 refine SW_if (p := d.kind = 1) rfl (fun c1 => ?_) (fun c1 => ?_)
 ·refine SW_seq ?_
  refine SW_seq ?_
  refine SW_reg ?_
  refine SO_all [] [1, 10] (y := ⟨[(1, (.fp (.agg [(.int .i64 d.kind), (.str d.name), (.int .i64 d.op), (.str d.evr), (.row 5 d.args.length (depAt d.args))]))), (10, (.bool (decide (d.op = 0))))], [], 1⟩) (C := none) (by kernel_rfl) hold0 ?_
  refine SW_if (p := d.op = 0) rfl (fun c2 => ?_) (fun c2 => ?_)
  ·refine SW_seq ?_
   refine SW_reg ?_
   refine SO_all [] [2] (y := ⟨[(2, (.str d.name))], [], 1⟩) (C := none) (by kernel_rfl) hold0 ?_
   refine SW_ret ?_
   refine retK_mk (.inl rfl) (al := [(.str d.name)]) (by kernel_rfl) (rl := [(.str d.name)]) (h' := []) (by kernel_rfl) ?_
   exact Same.of_eq (by rw [textN_n0 c1 c2]; rfl)
  ·refine SW_skip ?_
   refine SW_seq ?_
   refine SW_draw (by kernel_rfl) (fun F1 hF1 => ?_)
   refine SG_frees (lz := []) [0, 1, 2, 3, 4, 8, 9] [15, 17, 22] (fuel := 5) (L := #[true, true, true, true, true, false, false, false, true, true, false, false]) (y := ⟨[(15, (.str (d.name ++ [32]))), (17, (.int .i64 d.op)), (22, (.str d.evr))], [], 1⟩) (C := some ((d.name.length + [32].length ≤ 9223372036854775807))) (by kernel_rfl) (by kernel_rfl) (by kernel_rfl) (hold (by first | omega | (simp; omega) | (simp; done) | (intros; simp_all; omega) | (intros; simp_all; done))) ?_
   refine SG_call (s' := [(15, (.str (d.name ++ [32]))), (17, (.int .i64 d.op)), (22, (.str d.evr)), (18, (.str (if d.op < 0 ∨ 7 < d.op then [] else nth signsL d.op.toNat)))]) (fuel := 4) 5 (al := [(.int .i64 d.op)]) (r := (.str (if d.op < 0 ∨ 7 < d.op then [] else nth signsL d.op.toNat))) (by kernel_rfl) rfl rfl (by exact en_35) (by kernel_rfl) (by kernel_rfl) (refSign_any _) (by kernel_rfl) ?_
   refine SG_frees (lz := []) [6, 7, 10, 11] [2] (fuel := 0) (L := #[true, true, true, true, true, true, true, true, true, true, true, true]) (y := ⟨[(2, (.str ((((d.name ++ [32]) ++ (if d.op < 0 ∨ 7 < d.op then [] else nth signsL d.op.toNat)) ++ [32]) ++ d.evr)))], [], 1⟩) (C := some (((d.name ++ [32]).length + (if d.op < 0 ∨ 7 < d.op then [] else nth signsL d.op.toNat).length ≤ 9223372036854775807) ∧ (((d.name ++ [32]) ++ (if d.op < 0 ∨ 7 < d.op then [] else nth signsL d.op.toNat)).length + [32].length ≤ 9223372036854775807) ∧ ((((d.name ++ [32]) ++ (if d.op < 0 ∨ 7 < d.op then [] else nth signsL d.op.toNat)) ++ [32]).length + d.evr.length ≤ 9223372036854775807))) (by kernel_rfl) (by kernel_rfl) (by kernel_rfl) (hold (by first | omega | (simp; omega) | (simp; done) | (intros; simp_all; omega) | (intros; simp_all; done))) ?_
   refine SG_sel [2] (s := [(2, (.str ((((d.name ++ [32]) ++ (if d.op < 0 ∨ 7 < d.op then [] else nth signsL d.op.toNat)) ++ [32]) ++ d.evr)))]) (by kernel_rfl) ?_
   refine SG_done (by kernel_rfl) ?_
   refine SW_ret ?_
   refine retK_mk (.inl rfl) (al := [(.str ((((d.name ++ [32]) ++ (if d.op < 0 ∨ 7 < d.op then [] else nth signsL d.op.toNat)) ++ [32]) ++ d.evr))]) (by kernel_rfl) (rl := [(.str ((((d.name ++ [32]) ++ (if d.op < 0 ∨ 7 < d.op then [] else nth signsL d.op.toNat)) ++ [32]) ++ d.evr))]) (h' := []) (by kernel_rfl) ?_
   exact Same.of_eq (by have := form_n hf c1; rw [textN_n1 c1 (by omega), if_neg (by omega)]; rfl)
 ·refine SW_skip ?_
  refine SW_seq ?_
  refine SW_reg ?_
  refine SO_all [] [1, 3] (y := ⟨[(1, (.fp (.agg [(.int .i64 d.kind), (.str d.name), (.int .i64 d.op), (.str d.evr), (.row 5 d.args.length (depAt d.args))]))), (3, (.str ([40])))], [], 1⟩) (C := none) (by kernel_rfl) hold0 ?_
  refine SW_seq ?_
  refine SW_seq ?_
  refine SW_reg ?_
  refine SO_all [] [1, 3, 4] (y := ⟨[(1, (.fp (.agg [(.int .i64 d.kind), (.str d.name), (.int .i64 d.op), (.str d.evr), (.row 5 d.args.length (depAt d.args))]))), (3, (.str ([40]))), (4, (.int .i64 0))], [], 1⟩) (C := none) (by kernel_rfl) hold0 ?_
  refine SW_block ?_
  refine SW_loopg (fun g y => ∃ (i : Nat), i ≤ d.args.length ∧ y = ⟨[(1, (.fp (.agg [(.int .i64 d.kind), (.str d.name), (.int .i64 d.op), (.str d.evr), (.row 5 d.args.length (depAt d.args))]))), (3, (.str ([40] ++ joinN d.kind 0 (d.args.take i)))), (4, (.int .i64 ((i : Int))))], [], 1⟩ ∧ g = d.args.length - i) [1, 3, 4] 1 (y := ⟨[(1, (.fp (.agg [(.int .i64 d.kind), (.str d.name), (.int .i64 d.op), (.str d.evr), (.row 5 d.args.length (depAt d.args))]))), (3, (.str ([40]))), (4, (.int .i64 0))], [], 1⟩) _ (by omega) (by kernel_rfl) ⟨0, (by omega), (by kernel_rfl), rfl⟩ ?_
  rintro g1 y1 ⟨i, f1_1, rfl, rfl⟩
  have hb1 := joinN_len d.kind 0 (d.args.take i)
  have hb2 := argsSize_mono d.args i
  have hb3 := betw_len d.kind i
  have hb5 := textN_len (nth d.args i)
  have hb4 := fun h => argsSize_take' (l := d.args) (i := i) h
  have hfa := form_a hf c1
  refine SW_seq ?_
  refine SW_seq ?_
  refine SW_reg ?_
  refine SO_all [] [1, 3, 4, 28] (y := ⟨[(1, (.fp (.agg [(.int .i64 d.kind), (.str d.name), (.int .i64 d.op), (.str d.evr), (.row 5 d.args.length (depAt d.args))]))), (3, (.str ([40] ++ joinN d.kind 0 (d.args.take i)))), (4, (.int .i64 ((i : Int)))), (28, (.bool (decide ((i : Int) < (d.args.length : Int)))))], [], 1⟩) (C := none) (by kernel_rfl) hold0 ?_
  refine SW_if (p := (i : Int) < (d.args.length : Int)) rfl (fun c3 => ?_) (fun c3 => ?_)
  ·refine SW_skip ?_
   refine SW_seq ?_
   refine SW_block ?_
   refine SW_seq ?_
   refine SW_seq ?_
   refine SW_reg ?_
   refine SO_all [] [1, 3, 4, 32] (y := ⟨[(1, (.fp (.agg [(.int .i64 d.kind), (.str d.name), (.int .i64 d.op), (.str d.evr), (.row 5 d.args.length (depAt d.args))]))), (3, (.str ([40] ++ joinN d.kind 0 (d.args.take i)))), (4, (.int .i64 ((i : Int)))), (32, (.bool (decide (0 < (i : Int)))))], [], 1⟩) (C := none) (by kernel_rfl) hold0 ?_
   refine SW_if (p := 0 < (i : Int)) rfl (fun c4 => ?_) (fun c4 => ?_)
   ·refine SW_reg ?_
    refine SO_run 4 [] [1, 4, 33, 35, 36] (y := ⟨[(1, (.fp (.agg [(.int .i64 d.kind), (.str d.name), (.int .i64 d.op), (.str d.evr), (.row 5 d.args.length (depAt d.args))]))), (4, (.int .i64 ((i : Int)))), (33, (.str ([40] ++ joinN d.kind 0 (d.args.take i)))), (35, (.int .i64 d.kind)), (36, (.int .i64 ((i : Int))))], [], 1⟩) (C := none) (by kernel_rfl) hold0 ?_
    refine SO_call (s' := [(1, (.fp (.agg [(.int .i64 d.kind), (.str d.name), (.int .i64 d.op), (.str d.evr), (.row 5 d.args.length (depAt d.args))]))), (4, (.int .i64 ((i : Int)))), (33, (.str ([40] ++ joinN d.kind 0 (d.args.take i)))), (35, (.int .i64 d.kind)), (36, (.int .i64 ((i : Int)))), (37, (.str (betwL d.kind (i : Int))))]) (al := [(.int .i64 d.kind), (.int .i64 ((i : Int)))]) (r := (.str (betwL d.kind (i : Int)))) rfl (by exact en_36) (by kernel_rfl) (by kernel_rfl) (refBetween_any _ _) (by kernel_rfl) ?_
    refine SO_all [] [1, 3, 4] (y := ⟨[(1, (.fp (.agg [(.int .i64 d.kind), (.str d.name), (.int .i64 d.op), (.str d.evr), (.row 5 d.args.length (depAt d.args))]))), (3, (.str (([40] ++ joinN d.kind 0 (d.args.take i)) ++ (betwL d.kind (i : Int))))), (4, (.int .i64 ((i : Int))))], [], 1⟩) (C := some ((([40] ++ joinN d.kind 0 (d.args.take i)).length + (betwL d.kind (i : Int)).length ≤ 9223372036854775807))) (by kernel_rfl) (hold (by first | omega | (simp; omega) | (simp; done) | (intros; simp_all; omega) | (intros; simp_all; done))) ?_
    refine SW_reg ?_
    refine SO_run 4 [] [1, 4, 39, 41, 42] (y := ⟨[(1, (.fp (.agg [(.int .i64 d.kind), (.str d.name), (.int .i64 d.op), (.str d.evr), (.row 5 d.args.length (depAt d.args))]))), (4, (.int .i64 ((i : Int)))), (39, (.str (([40] ++ joinN d.kind 0 (d.args.take i)) ++ (betwL d.kind (i : Int))))), (41, (.row 5 d.args.length (depAt d.args))), (42, (.int .i64 ((i : Int))))], [], 1⟩) (C := none) (by kernel_rfl) hold0 ?_
    refine SO_conv 41 (rowOf 5 depX d.args) (by kernel_rfl) (deps_of d.args) ?_
    refine SO_run 2 [] [1, 4, 39, 44] (y := ⟨[(1, (.fp (.agg [(.int .i64 d.kind), (.str d.name), (.int .i64 d.op), (.str d.evr), (.row 5 d.args.length (depAt d.args))]))), (4, (.int .i64 ((i : Int)))), (39, (.str (([40] ++ joinN d.kind 0 (d.args.take i)) ++ (betwL d.kind (i : Int))))), (44, (.agg [(.int .i64 ((nth d.args i).kind)), (.str ((nth d.args i).name)), (.int .i64 ((nth d.args i).op)), (.str ((nth d.args i).evr)), (.row 5 (nth d.args i).args.length (depAt (nth d.args i).args))]))], [], 1⟩) (C := some ((0 ≤ (i : Int) ∧ i < d.args.length))) (by kernel_rfl) (hold (by first | omega | (simp; omega) | (simp; done) | (intros; simp_all; omega) | (intros; simp_all; done))) ?_
    refine SO_call (s' := [(1, (.fp (.agg [(.int .i64 d.kind), (.str d.name), (.int .i64 d.op), (.str d.evr), (.row 5 d.args.length (depAt d.args))]))), (4, (.int .i64 ((i : Int)))), (39, (.str (([40] ++ joinN d.kind 0 (d.args.take i)) ++ (betwL d.kind (i : Int))))), (44, (.agg [(.int .i64 ((nth d.args i).kind)), (.str ((nth d.args i).name)), (.int .i64 ((nth d.args i).op)), (.str ((nth d.args i).evr)), (.row 5 (nth d.args i).args.length (depAt (nth d.args i).args))])), (45, (.str (textN (nth d.args i))))]) (al := [(.agg [(.int .i64 ((nth d.args i).kind)), (.str ((nth d.args i).name)), (.int .i64 ((nth d.args i).op)), (.str ((nth d.args i).evr)), (.row 5 (nth d.args i).args.length (depAt (nth d.args i).args))])]) (r := (.str (textN (nth d.args i)))) rfl (by exact en_17) (by kernel_rfl) (by kernel_rfl) (ih i (by omega)) (by kernel_rfl) ?_
    refine SO_all [] [1, 3, 4] (y := ⟨[(1, (.fp (.agg [(.int .i64 d.kind), (.str d.name), (.int .i64 d.op), (.str d.evr), (.row 5 d.args.length (depAt d.args))]))), (3, (.str ((([40] ++ joinN d.kind 0 (d.args.take i)) ++ (betwL d.kind (i : Int))) ++ (textN (nth d.args i))))), (4, (.int .i64 ((i : Int))))], [], 1⟩) (C := some (((([40] ++ joinN d.kind 0 (d.args.take i)) ++ (betwL d.kind (i : Int))).length + (textN (nth d.args i)).length ≤ 9223372036854775807))) (by kernel_rfl) (hold (by first | omega | (simp; omega) | (simp; done) | (intros; simp_all; omega) | (intros; simp_all; done))) ?_
    refine SW_reg ?_
    refine SO_all [] [1, 3, 4] (y := ⟨[(1, (.fp (.agg [(.int .i64 d.kind), (.str d.name), (.int .i64 d.op), (.str d.evr), (.row 5 d.args.length (depAt d.args))]))), (3, (.str ((([40] ++ joinN d.kind 0 (d.args.take i)) ++ (betwL d.kind (i : Int))) ++ (textN (nth d.args i))))), (4, (.int .i64 ((i : Int) + 1)))], [], 1⟩) (C := some ((-9223372036854775808 ≤ (i : Int) + 1 ∧ (i : Int) + 1 ≤ 9223372036854775807))) (by kernel_rfl) (hold (by first | omega | (simp; omega) | (simp; done) | (intros; simp_all; omega) | (intros; simp_all; done))) ?_
    refine ⟨_, (by kernel_rfl : gcS _ _ _ = some ⟨[(1, (.fp (.agg [(.int .i64 d.kind), (.str d.name), (.int .i64 d.op), (.str d.evr), (.row 5 d.args.length (depAt d.args))]))), (3, (.str ((([40] ++ joinN d.kind 0 (d.args.take i)) ++ (betwL d.kind (i : Int))) ++ (textN (nth d.args i))))), (4, (.int .i64 ((i : Int) + 1)))], [], 1⟩), _, ?_, i + 1, ?_, (by rw [joinN_take (by omega), ← betw_sep (by omega) (by omega) (by omega) (by omega)]; simp only [List.append_assoc]; rfl), rfl⟩
    all_goals omega
   ·refine SW_skip ?_
    refine SW_reg ?_
    refine SO_run 4 [] [1, 4, 39, 41, 42] (y := ⟨[(1, (.fp (.agg [(.int .i64 d.kind), (.str d.name), (.int .i64 d.op), (.str d.evr), (.row 5 d.args.length (depAt d.args))]))), (4, (.int .i64 ((i : Int)))), (39, (.str ([40] ++ joinN d.kind 0 (d.args.take i)))), (41, (.row 5 d.args.length (depAt d.args))), (42, (.int .i64 ((i : Int))))], [], 1⟩) (C := none) (by kernel_rfl) hold0 ?_
    refine SO_conv 41 (rowOf 5 depX d.args) (by kernel_rfl) (deps_of d.args) ?_
    refine SO_run 2 [] [1, 4, 39, 44] (y := ⟨[(1, (.fp (.agg [(.int .i64 d.kind), (.str d.name), (.int .i64 d.op), (.str d.evr), (.row 5 d.args.length (depAt d.args))]))), (4, (.int .i64 ((i : Int)))), (39, (.str ([40] ++ joinN d.kind 0 (d.args.take i)))), (44, (.agg [(.int .i64 ((nth d.args i).kind)), (.str ((nth d.args i).name)), (.int .i64 ((nth d.args i).op)), (.str ((nth d.args i).evr)), (.row 5 (nth d.args i).args.length (depAt (nth d.args i).args))]))], [], 1⟩) (C := some ((0 ≤ (i : Int) ∧ i < d.args.length))) (by kernel_rfl) (hold (by first | omega | (simp; omega) | (simp; done) | (intros; simp_all; omega) | (intros; simp_all; done))) ?_
    refine SO_call (s' := [(1, (.fp (.agg [(.int .i64 d.kind), (.str d.name), (.int .i64 d.op), (.str d.evr), (.row 5 d.args.length (depAt d.args))]))), (4, (.int .i64 ((i : Int)))), (39, (.str ([40] ++ joinN d.kind 0 (d.args.take i)))), (44, (.agg [(.int .i64 ((nth d.args i).kind)), (.str ((nth d.args i).name)), (.int .i64 ((nth d.args i).op)), (.str ((nth d.args i).evr)), (.row 5 (nth d.args i).args.length (depAt (nth d.args i).args))])), (45, (.str (textN (nth d.args i))))]) (al := [(.agg [(.int .i64 ((nth d.args i).kind)), (.str ((nth d.args i).name)), (.int .i64 ((nth d.args i).op)), (.str ((nth d.args i).evr)), (.row 5 (nth d.args i).args.length (depAt (nth d.args i).args))])]) (r := (.str (textN (nth d.args i)))) rfl (by exact en_17) (by kernel_rfl) (by kernel_rfl) (ih i (by omega)) (by kernel_rfl) ?_
    refine SO_all [] [1, 3, 4] (y := ⟨[(1, (.fp (.agg [(.int .i64 d.kind), (.str d.name), (.int .i64 d.op), (.str d.evr), (.row 5 d.args.length (depAt d.args))]))), (3, (.str (([40] ++ joinN d.kind 0 (d.args.take i)) ++ (textN (nth d.args i))))), (4, (.int .i64 ((i : Int))))], [], 1⟩) (C := some ((([40] ++ joinN d.kind 0 (d.args.take i)).length + (textN (nth d.args i)).length ≤ 9223372036854775807))) (by kernel_rfl) (hold (by first | omega | (simp; omega) | (simp; done) | (intros; simp_all; omega) | (intros; simp_all; done))) ?_
    refine SW_reg ?_
    refine SO_all [] [1, 3, 4] (y := ⟨[(1, (.fp (.agg [(.int .i64 d.kind), (.str d.name), (.int .i64 d.op), (.str d.evr), (.row 5 d.args.length (depAt d.args))]))), (3, (.str (([40] ++ joinN d.kind 0 (d.args.take i)) ++ (textN (nth d.args i))))), (4, (.int .i64 ((i : Int) + 1)))], [], 1⟩) (C := some ((-9223372036854775808 ≤ (i : Int) + 1 ∧ (i : Int) + 1 ≤ 9223372036854775807))) (by kernel_rfl) (hold (by first | omega | (simp; omega) | (simp; done) | (intros; simp_all; omega) | (intros; simp_all; done))) ?_
    refine ⟨_, (by kernel_rfl : gcS _ _ _ = some ⟨[(1, (.fp (.agg [(.int .i64 d.kind), (.str d.name), (.int .i64 d.op), (.str d.evr), (.row 5 d.args.length (depAt d.args))]))), (3, (.str (([40] ++ joinN d.kind 0 (d.args.take i)) ++ (textN (nth d.args i))))), (4, (.int .i64 ((i : Int) + 1)))], [], 1⟩), _, ?_, i + 1, ?_, (by rw [joinN_take (by omega), sepN_zero (by omega)]; simp only [List.append_assoc]; rfl), rfl⟩
    all_goals omega
  ·refine SW_exit ?_
   refine SW_seq ?_
   refine SW_reg ?_
   refine SO_all [] [2] (y := ⟨[(2, (.str (([40] ++ joinN d.kind 0 (d.args.take i)) ++ [41])))], [], 1⟩) (C := some ((([40] ++ joinN d.kind 0 (d.args.take i)).length + [41].length ≤ 9223372036854775807))) (by kernel_rfl) (hold (by first | omega | (simp; omega) | (simp; done) | (intros; simp_all; omega) | (intros; simp_all; done))) ?_
   refine SW_ret ?_
   refine retK_mk (.inl rfl) (al := [(.str (([40] ++ joinN d.kind 0 (d.args.take i)) ++ [41]))]) (by kernel_rfl) (rl := [(.str (([40] ++ joinN d.kind 0 (d.args.take i)) ++ [41]))]) (h' := []) (by kernel_rfl) ?_
   exact Same.of_eq (by rw [textN_na c1, List.take_of_length_le (by omega)]; rfl)
theorem refText_any (d : DepT) : formB d = true → d.size ≤ 4194304 → FnV Tryz.prog 17 [depX d] (.str (textN d)) := by
 refine dep_ind (C := fun d => formB d = true → d.size ≤ 4194304 → FnV Tryz.prog 17 [depX d] (.str (textN d))) (fun d ih hf hs => ?_) d
 refine refText_step d hf hs fun i hi => ?_
 have := size_nth hi
 refine ih i hi ?_ (by omega)
 by_cases h : d.kind = 1
 ·cases d; have := (form_nm hf h).2.2.1; simp only [DepT.args] at hi; rw [this] at hi; simp at hi
 ·exact argsForm_nth (form_a hf h).2.2.2 hi
theorem refCheckV (d : DepT) (hs : d.size ≤ 4194304) : FnV Tryz.prog 13 [depX d] (.int .i64 (checkE d)) := FnV.of_dep (rv := .int .i64 (checkE d)) (fun F => by simp only [VR]) fun w cs h => refCheck_any d cs h hs
set_option maxHeartbeats 400000 in
set_option maxRecDepth 100000 in
theorem refPrint_any (d : DepT) (hs : d.size ≤ 4194304) :
  FnV Tryz.prog 7 [(.agg [(.int .i64 d.kind), (.str d.name), (.int .i64 d.op), (.str d.evr), (.row 5 d.args.length (depAt d.args))])] (.tup [(.str ((printF d).1)), (.int .i64 ((printF d).2))]) := by
 refine FnV_intro [.tmp 2, .tmp 3] Tryz.func7 rfl Tryz.ntmps7 rfl rfl (fun B F hF => ?_)
 refine SW_seq ?_
 refine SW_reg ?_
 refine SO_run 1 [] [1] (y := ⟨[(1, (.ptr 0 0))], [(0, (.row [(.int .i64 d.kind), (.str d.name), (.int .i64 d.op), (.str d.evr), (.row 5 d.args.length (depAt d.args))] 24))], 1⟩) (C := none) (by kernel_rfl) hold0 ?_
 refine SO_still 1 (y := ⟨[(1, (.fp (.agg [(.int .i64 d.kind), (.str d.name), (.int .i64 d.op), (.str d.evr), (.row 5 d.args.length (depAt d.args))])))], [], 1⟩) (by kernel_rfl) ?_
 refine SO_all [] [1] (y := ⟨[(1, (.fp (.agg [(.int .i64 d.kind), (.str d.name), (.int .i64 d.op), (.str d.evr), (.row 5 d.args.length (depAt d.args))])))], [], 1⟩) (C := none) (by kernel_rfl) hold0 ?_
 refine SW_seq ?_
 refine SW_reg ?_
 refine SO_run 1 [] [1, 5] (y := ⟨[(1, (.fp (.agg [(.int .i64 d.kind), (.str d.name), (.int .i64 d.op), (.str d.evr), (.row 5 d.args.length (depAt d.args))]))), (5, (.agg [(.int .i64 d.kind), (.str d.name), (.int .i64 d.op), (.str d.evr), (.row 5 d.args.length (depAt d.args))]))], [], 1⟩) (C := none) (by kernel_rfl) hold0 ?_
 refine SO_call (s' := [(1, (.fp (.agg [(.int .i64 d.kind), (.str d.name), (.int .i64 d.op), (.str d.evr), (.row 5 d.args.length (depAt d.args))]))), (5, (.agg [(.int .i64 d.kind), (.str d.name), (.int .i64 d.op), (.str d.evr), (.row 5 d.args.length (depAt d.args))])), (6, (.int .i64 (checkE d)))]) (al := [(.agg [(.int .i64 d.kind), (.str d.name), (.int .i64 d.op), (.str d.evr), (.row 5 d.args.length (depAt d.args))])]) (r := (.int .i64 (checkE d))) rfl (by exact en_13) (by kernel_rfl) (by kernel_rfl) (refCheckV d hs) (by kernel_rfl) ?_
 refine SO_all [] [1, 4] (y := ⟨[(1, (.fp (.agg [(.int .i64 d.kind), (.str d.name), (.int .i64 d.op), (.str d.evr), (.row 5 d.args.length (depAt d.args))]))), (4, (.int .i64 (checkE d)))], [], 1⟩) (C := none) (by kernel_rfl) hold0 ?_
 refine SW_seq ?_
 refine SW_seq ?_
 refine SW_reg ?_
 refine SO_all [] [1, 4, 8] (y := ⟨[(1, (.fp (.agg [(.int .i64 d.kind), (.str d.name), (.int .i64 d.op), (.str d.evr), (.row 5 d.args.length (depAt d.args))]))), (4, (.int .i64 (checkE d))), (8, (.bool (!decide ((checkE d) = 0))))], [], 1⟩) (C := none) (by kernel_rfl) hold0 ?_
 refine SW_ifn (p := (checkE d) = 0) rfl (fun c1 => ?_) (fun c1 => ?_)
 ·refine SW_seq ?_
  refine SW_reg ?_
  refine SO_all [] [2, 3] (y := ⟨[(2, (.str [])), (3, (.int .i64 (checkE d)))], [], 1⟩) (C := none) (by kernel_rfl) hold0 ?_
  refine SW_ret ?_
  refine retK_mk (.inl rfl) (al := [(.str []), (.int .i64 (checkE d))]) (by kernel_rfl) (rl := [(.str []), (.int .i64 (checkE d))]) (h' := []) (by kernel_rfl) ?_
  exact Same.of_eq (by unfold printF; rw [if_neg c1]; rfl)
 ·refine SW_skip ?_
  refine SW_seq ?_
  refine SW_reg ?_
  refine SO_run 1 [] [10] (y := ⟨[(10, (.agg [(.int .i64 d.kind), (.str d.name), (.int .i64 d.op), (.str d.evr), (.row 5 d.args.length (depAt d.args))]))], [], 1⟩) (C := none) (by kernel_rfl) hold0 ?_
  refine SO_call (s' := [(10, (.agg [(.int .i64 d.kind), (.str d.name), (.int .i64 d.op), (.str d.evr), (.row 5 d.args.length (depAt d.args))])), (11, (.str (textN d)))]) (al := [(.agg [(.int .i64 d.kind), (.str d.name), (.int .i64 d.op), (.str d.evr), (.row 5 d.args.length (depAt d.args))])]) (r := (.str (textN d))) rfl (by exact en_17) (by kernel_rfl) (by kernel_rfl) (refText_any d (check_form c1) hs) (by kernel_rfl) ?_
  refine SO_all [] [2, 3] (y := ⟨[(2, (.str (textN d))), (3, (.int .i64 0))], [], 1⟩) (C := none) (by kernel_rfl) hold0 ?_
  refine SW_ret ?_
  refine retK_mk (.inl rfl) (al := [(.str (textN d)), (.int .i64 0)]) (by kernel_rfl) (rl := [(.str (textN d)), (.int .i64 0)]) (h' := []) (by kernel_rfl) ?_
  exact Same.of_eq (by unfold printF; rw [if_pos c1]; rfl)
set_option maxHeartbeats 400000 in
set_option maxRecDepth 100000 in
theorem refOwn_step (d : DepT) (hs : d.size ≤ 4194304) (ih : ∀ i, i < d.args.length → FnV Tryz.prog 5 [depX (nth d.args i)] (depX (nth d.args i))) :
  FnV Tryz.prog 5 [(.agg [(.int .i64 d.kind), (.str d.name), (.int .i64 d.op), (.str d.evr), (.row 5 d.args.length (depAt d.args))])] (depX d) := by
 have hz := size_parts d
 have hal := args_le d.args
 refine FnV_intro [.cell 2 24] Tryz.func5 rfl Tryz.ntmps5 rfl rfl (fun B F hF => ?_)
 refine SW_seq ?_
 refine SW_reg ?_
 refine SO_run 1 [] [1] (y := ⟨[(1, (.ptr 0 0))], [(0, (.row [(.int .i64 d.kind), (.str d.name), (.int .i64 d.op), (.str d.evr), (.row 5 d.args.length (depAt d.args))] 24))], 1⟩) (C := none) (by kernel_rfl) hold0 ?_
 refine SO_still 1 (y := ⟨[(1, (.fp (.agg [(.int .i64 d.kind), (.str d.name), (.int .i64 d.op), (.str d.evr), (.row 5 d.args.length (depAt d.args))])))], [], 1⟩) (by kernel_rfl) ?_
 refine SO_all [] [1, 2] (y := ⟨[(1, (.fp (.agg [(.int .i64 d.kind), (.str d.name), (.int .i64 d.op), (.str d.evr), (.row 5 d.args.length (depAt d.args))]))), (2, (.ptr 1 0))], [(1, (.row [(.int .i64 0), (.str []), (.int .i64 0), (.str []), .nils] 24))], 2⟩) (C := none) (by kernel_rfl) hold0 ?_
 refine SW_seq ?_
 refine SW_reg ?_
 refine SO_all [] [1, 2, 3] (y := ⟨[(1, (.fp (.agg [(.int .i64 d.kind), (.str d.name), (.int .i64 d.op), (.str d.evr), (.row 5 d.args.length (depAt d.args))]))), (2, (.ptr 1 0)), (3, (.ptr 2 0))], [(1, (.row [(.int .i64 0), (.str []), (.int .i64 0), (.str []), .nils] 24)), (2, (.row [(.int .i64 d.kind), (.str d.name), (.int .i64 d.op), (.str d.evr), (.row 5 d.args.length (depAt d.args))] 24))], 3⟩) (C := none) (by kernel_rfl) hold0 ?_
 refine SW_seq ?_
 refine SW_reg ?_
 refine SO_all [] [1, 2, 3] (y := ⟨[(1, (.fp (.agg [(.int .i64 d.kind), (.str d.name), (.int .i64 d.op), (.str d.evr), (.row 5 d.args.length (depAt d.args))]))), (2, (.ptr 1 0)), (3, (.ptr 2 0))], [(1, (.row [(.int .i64 0), (.str []), (.int .i64 0), (.str []), .nils] 24)), (2, (.row [(.int .i64 d.kind), (.str d.name), (.int .i64 d.op), (.str d.evr), .nils] 24))], 3⟩) (C := none) (by kernel_rfl) hold0 ?_
 refine SW_seq ?_
 refine SW_seq ?_
 refine SW_reg ?_
 refine SO_all [] [1, 2, 3, 4] (y := ⟨[(1, (.fp (.agg [(.int .i64 d.kind), (.str d.name), (.int .i64 d.op), (.str d.evr), (.row 5 d.args.length (depAt d.args))]))), (2, (.ptr 1 0)), (3, (.ptr 2 0)), (4, (.int .i64 0))], [(1, (.row [(.int .i64 0), (.str []), (.int .i64 0), (.str []), .nils] 24)), (2, (.row [(.int .i64 d.kind), (.str d.name), (.int .i64 d.op), (.str d.evr), .nils] 24))], 3⟩) (C := none) (by kernel_rfl) hold0 ?_
 refine SW_block ?_
 refine SW_thawC 24 5 2 4 (y := ⟨[(1, (.fp (.agg [(.int .i64 d.kind), (.str d.name), (.int .i64 d.op), (.str d.evr), (.row 5 d.args.length (depAt d.args))]))), (2, (.ptr 1 0)), (3, (.ptr 2 0)), (4, (.int .i64 0))], [(1, (.row [(.int .i64 0), (.str []), (.int .i64 0), (.str []), .nils] 24)), (2, (.row [(.int .i64 d.kind), (.str d.name), (.int .i64 d.op), (.str d.evr), (.own 3)] 24)), (3, (.grow [] 24 5))], 4⟩) rfl (by kernel_rfl) ?_
 refine SW_loopg (fun g y => ∃ (i : Nat), i ≤ d.args.length ∧ y = ⟨[(1, (.fp (.agg [(.int .i64 d.kind), (.str d.name), (.int .i64 d.op), (.str d.evr), (.row 5 d.args.length (depAt d.args))]))), (2, (.ptr 1 0)), (3, (.ptr 2 0)), (4, (.int .i64 ((i : Int))))], [(1, (.row [(.int .i64 0), (.str []), (.int .i64 0), (.str []), .nils] 24)), (2, (.row [(.int .i64 d.kind), (.str d.name), (.int .i64 d.op), (.str d.evr), (.own 3)] 24)), (3, (.grow ((d.args.take i).map depX) 24 5))], 4⟩ ∧ g = d.args.length - i) [1, 2, 3, 4] 4 (y := ⟨[(1, (.fp (.agg [(.int .i64 d.kind), (.str d.name), (.int .i64 d.op), (.str d.evr), (.row 5 d.args.length (depAt d.args))]))), (2, (.ptr 1 0)), (3, (.ptr 2 0)), (4, (.int .i64 0))], [(1, (.row [(.int .i64 0), (.str []), (.int .i64 0), (.str []), .nils] 24)), (2, (.row [(.int .i64 d.kind), (.str d.name), (.int .i64 d.op), (.str d.evr), (.own 3)] 24)), (3, (.grow [] 24 5))], 4⟩) _ (by omega) (by kernel_rfl) ⟨0, (by omega), (by kernel_rfl), rfl⟩ ?_
 rintro g1 y1 ⟨i, f1_1, rfl, rfl⟩
 refine SW_seq ?_
 refine SW_seq ?_
 refine SW_reg ?_
 refine SO_all [] [1, 2, 3, 4, 11] (y := ⟨[(1, (.fp (.agg [(.int .i64 d.kind), (.str d.name), (.int .i64 d.op), (.str d.evr), (.row 5 d.args.length (depAt d.args))]))), (2, (.ptr 1 0)), (3, (.ptr 2 0)), (4, (.int .i64 ((i : Int)))), (11, (.bool (decide ((i : Int) < (d.args.length : Int)))))], [(1, (.row [(.int .i64 0), (.str []), (.int .i64 0), (.str []), .nils] 24)), (2, (.row [(.int .i64 d.kind), (.str d.name), (.int .i64 d.op), (.str d.evr), (.own 3)] 24)), (3, (.grow ((d.args.take i).map depX) 24 5))], 4⟩) (C := none) (by kernel_rfl) hold0 ?_
 refine SW_if (p := (i : Int) < (d.args.length : Int)) rfl (fun c1 => ?_) (fun c1 => ?_)
 ·refine SW_skip ?_
  refine SW_seq ?_
  refine SW_block ?_
  refine SW_draw (by kernel_rfl) (fun F1 hF1 => ?_)
  refine SG_frees (lz := []) [0, 2, 3, 4] [1, 2, 3, 4, 14, 17, 18] (fuel := 8) (L := #[true, false, true, true, true, false, false, false, false, false, false, false]) (y := ⟨[(1, (.fp (.agg [(.int .i64 d.kind), (.str d.name), (.int .i64 d.op), (.str d.evr), (.row 5 d.args.length (depAt d.args))]))), (2, (.ptr 1 0)), (3, (.ptr 2 0)), (4, (.int .i64 ((i : Int)))), (14, (.ptr 2 4)), (17, (.row 5 d.args.length (depAt d.args))), (18, (.int .i64 ((i : Int))))], [(1, (.row [(.int .i64 0), (.str []), (.int .i64 0), (.str []), .nils] 24)), (2, (.row [(.int .i64 d.kind), (.str d.name), (.int .i64 d.op), (.str d.evr), (.own 3)] 24)), (3, (.grow ((d.args.take i).map depX) 24 5))], 4⟩) (C := none) (by kernel_rfl) (by kernel_rfl) (by kernel_rfl) hold0 ?_
  refine SG_conv 17 (rowOf 5 depX d.args) (by kernel_rfl) (deps_of d.args) ?_
  refine SG_frees (lz := []) [5, 6] [1, 2, 3, 4, 14, 20] (fuel := 6) (L := #[true, false, true, true, true, true, true, false, false, false, false, false]) (y := ⟨[(1, (.fp (.agg [(.int .i64 d.kind), (.str d.name), (.int .i64 d.op), (.str d.evr), (.row 5 d.args.length (depAt d.args))]))), (2, (.ptr 1 0)), (3, (.ptr 2 0)), (4, (.int .i64 ((i : Int)))), (14, (.ptr 2 4)), (20, (.agg [(.int .i64 ((nth d.args i).kind)), (.str ((nth d.args i).name)), (.int .i64 ((nth d.args i).op)), (.str ((nth d.args i).evr)), (.row 5 (nth d.args i).args.length (depAt (nth d.args i).args))]))], [(1, (.row [(.int .i64 0), (.str []), (.int .i64 0), (.str []), .nils] 24)), (2, (.row [(.int .i64 d.kind), (.str d.name), (.int .i64 d.op), (.str d.evr), (.own 3)] 24)), (3, (.grow ((d.args.take i).map depX) 24 5))], 4⟩) (C := some ((0 ≤ (i : Int) ∧ i < d.args.length))) (by kernel_rfl) (by kernel_rfl) (by kernel_rfl) (hold (by first | omega | (simp; omega) | (simp; done) | (intros; simp_all; omega) | (intros; simp_all; done))) ?_
  refine SG_two 1 7 (by kernel_rfl) ?_ ?_
  ·refine SN_only (fuel := 5) 1 [] (y := ⟨[(1, (.fp (.agg [(.int .i64 d.kind), (.str d.name), (.int .i64 d.op), (.str d.evr), (.row 5 d.args.length (depAt d.args))]))), (2, (.ptr 1 0)), (3, (.ptr 2 0)), (4, (.int .i64 ((i : Int)))), (14, (.ptr 2 4)), (20, (.agg [(.int .i64 ((nth d.args i).kind)), (.str ((nth d.args i).name)), (.int .i64 ((nth d.args i).op)), (.str ((nth d.args i).evr)), (.row 5 (nth d.args i).args.length (depAt (nth d.args i).args))])), (15, (.own 3))], [(1, (.row [(.int .i64 0), (.str []), (.int .i64 0), (.str []), .nils] 24)), (2, (.row [(.int .i64 d.kind), (.str d.name), (.int .i64 d.op), (.str d.evr), (.own 3)] 24)), (3, (.grow ((d.args.take i).map depX) 24 5))], 4⟩) (C := none) rfl (by kernel_rfl) hold0 ?_
   refine SG_call (s' := [(1, (.fp (.agg [(.int .i64 d.kind), (.str d.name), (.int .i64 d.op), (.str d.evr), (.row 5 d.args.length (depAt d.args))]))), (2, (.ptr 1 0)), (3, (.ptr 2 0)), (4, (.int .i64 ((i : Int)))), (14, (.ptr 2 4)), (20, (.agg [(.int .i64 ((nth d.args i).kind)), (.str ((nth d.args i).name)), (.int .i64 ((nth d.args i).op)), (.str ((nth d.args i).evr)), (.row 5 (nth d.args i).args.length (depAt (nth d.args i).args))])), (15, (.own 3)), (21, (.agg [(.int .i64 ((nth d.args i).kind)), (.str ((nth d.args i).name)), (.int .i64 ((nth d.args i).op)), (.str ((nth d.args i).evr)), (.row 5 (nth d.args i).args.length (depAt (nth d.args i).args))]))]) (fuel := 4) 7 (al := [(.agg [(.int .i64 ((nth d.args i).kind)), (.str ((nth d.args i).name)), (.int .i64 ((nth d.args i).op)), (.str ((nth d.args i).evr)), (.row 5 (nth d.args i).args.length (depAt (nth d.args i).args))])]) (r := (.agg [(.int .i64 ((nth d.args i).kind)), (.str ((nth d.args i).name)), (.int .i64 ((nth d.args i).op)), (.str ((nth d.args i).evr)), (.row 5 (nth d.args i).args.length (depAt (nth d.args i).args))])) (by kernel_rfl) rfl rfl (by exact en_5) (by kernel_rfl) (by kernel_rfl) (ih i (by omega)) (by kernel_rfl) ?_
   refine SG_only (fuel := 3) 8 [] (y := ⟨[(1, (.fp (.agg [(.int .i64 d.kind), (.str d.name), (.int .i64 d.op), (.str d.evr), (.row 5 d.args.length (depAt d.args))]))), (2, (.ptr 1 0)), (3, (.ptr 2 0)), (4, (.int .i64 ((i : Int)))), (14, (.ptr 2 4)), (20, (.agg [(.int .i64 ((nth d.args i).kind)), (.str ((nth d.args i).name)), (.int .i64 ((nth d.args i).op)), (.str ((nth d.args i).evr)), (.row 5 (nth d.args i).args.length (depAt (nth d.args i).args))])), (15, (.own 3)), (21, (.agg [(.int .i64 ((nth d.args i).kind)), (.str ((nth d.args i).name)), (.int .i64 ((nth d.args i).op)), (.str ((nth d.args i).evr)), (.row 5 (nth d.args i).args.length (depAt (nth d.args i).args))])), (22, (.sl 4 0 1 1 false))], [(1, (.row [(.int .i64 0), (.str []), (.int .i64 0), (.str []), .nils] 24)), (2, (.row [(.int .i64 d.kind), (.str d.name), (.int .i64 d.op), (.str d.evr), (.own 3)] 24)), (3, (.grow ((d.args.take i).map depX) 24 5)), (4, (.row [(.int .i64 ((nth d.args i).kind)), (.str ((nth d.args i).name)), (.int .i64 ((nth d.args i).op)), (.str ((nth d.args i).evr)), (.row 5 (nth d.args i).args.length (depAt (nth d.args i).args))] 24))], 5⟩) (C := none) (by kernel_rfl) rfl (by kernel_rfl) hold0 ?_
   refine SG_only (fuel := 2) 9 [] (y := ⟨[(1, (.fp (.agg [(.int .i64 d.kind), (.str d.name), (.int .i64 d.op), (.str d.evr), (.row 5 d.args.length (depAt d.args))]))), (2, (.ptr 1 0)), (3, (.ptr 2 0)), (4, (.int .i64 ((i : Int)))), (14, (.ptr 2 4)), (20, (.agg [(.int .i64 ((nth d.args i).kind)), (.str ((nth d.args i).name)), (.int .i64 ((nth d.args i).op)), (.str ((nth d.args i).evr)), (.row 5 (nth d.args i).args.length (depAt (nth d.args i).args))])), (15, junk), (21, (.agg [(.int .i64 ((nth d.args i).kind)), (.str ((nth d.args i).name)), (.int .i64 ((nth d.args i).op)), (.str ((nth d.args i).evr)), (.row 5 (nth d.args i).args.length (depAt (nth d.args i).args))])), (22, (.sl 4 0 1 1 false)), (23, (.own 3))], [(1, (.row [(.int .i64 0), (.str []), (.int .i64 0), (.str []), .nils] 24)), (2, (.row [(.int .i64 d.kind), (.str d.name), (.int .i64 d.op), (.str d.evr), junk] 24)), (3, (.grow (((d.args.take i).map depX) ++ ([(.agg [(.int .i64 ((nth d.args i).kind)), (.str ((nth d.args i).name)), (.int .i64 ((nth d.args i).op)), (.str ((nth d.args i).evr)), (.row 5 (nth d.args i).args.length (depAt (nth d.args i).args))])] : List AV)) 24 5)), (4, (.row [(.int .i64 ((nth d.args i).kind)), (.str ((nth d.args i).name)), (.int .i64 ((nth d.args i).op)), (.str ((nth d.args i).evr)), (.row 5 (nth d.args i).args.length (depAt (nth d.args i).args))] 24))], 5⟩) (C := some (((((d.args.take i).map depX).length + 1) * 72 ≤ 140737488355328))) (by kernel_rfl) rfl (by kernel_rfl) (hold (by first | omega | (simp; omega) | (simp; done) | (intros; simp_all; omega) | (intros; simp_all; done))) ?_
   refine SG_frees (lz := []) [10] [1, 2, 3, 4, 23, 24] (fuel := 1) (L := #[true, true, true, true, true, true, true, true, true, true, true, false]) (y := ⟨[(1, (.fp (.agg [(.int .i64 d.kind), (.str d.name), (.int .i64 d.op), (.str d.evr), (.row 5 d.args.length (depAt d.args))]))), (2, (.ptr 1 0)), (3, (.ptr 2 0)), (4, (.int .i64 ((i : Int)))), (23, (.own 3)), (24, (.ptr 2 4))], [(1, (.row [(.int .i64 0), (.str []), (.int .i64 0), (.str []), .nils] 24)), (2, (.row [(.int .i64 d.kind), (.str d.name), (.int .i64 d.op), (.str d.evr), junk] 24)), (3, (.grow (((d.args.take i).map depX) ++ ([(.agg [(.int .i64 ((nth d.args i).kind)), (.str ((nth d.args i).name)), (.int .i64 ((nth d.args i).op)), (.str ((nth d.args i).evr)), (.row 5 (nth d.args i).args.length (depAt (nth d.args i).args))])] : List AV)) 24 5)), (4, (.row [(.int .i64 ((nth d.args i).kind)), (.str ((nth d.args i).name)), (.int .i64 ((nth d.args i).op)), (.str ((nth d.args i).evr)), (.row 5 (nth d.args i).args.length (depAt (nth d.args i).args))] 24))], 5⟩) (C := none) (by kernel_rfl) (by kernel_rfl) (by kernel_rfl) hold0 ?_
   refine SG_only (fuel := 0) 11 [] (y := ⟨[(1, (.fp (.agg [(.int .i64 d.kind), (.str d.name), (.int .i64 d.op), (.str d.evr), (.row 5 d.args.length (depAt d.args))]))), (2, (.ptr 1 0)), (3, (.ptr 2 0)), (4, (.int .i64 ((i : Int)))), (23, (.own 3)), (24, (.ptr 2 4))], [(1, (.row [(.int .i64 0), (.str []), (.int .i64 0), (.str []), .nils] 24)), (2, (.row [(.int .i64 d.kind), (.str d.name), (.int .i64 d.op), (.str d.evr), (.own 3)] 24)), (3, (.grow (((d.args.take i).map depX) ++ ([(.agg [(.int .i64 ((nth d.args i).kind)), (.str ((nth d.args i).name)), (.int .i64 ((nth d.args i).op)), (.str ((nth d.args i).evr)), (.row 5 (nth d.args i).args.length (depAt (nth d.args i).args))])] : List AV)) 24 5)), (4, (.row [(.int .i64 ((nth d.args i).kind)), (.str ((nth d.args i).name)), (.int .i64 ((nth d.args i).op)), (.str ((nth d.args i).evr)), (.row 5 (nth d.args i).args.length (depAt (nth d.args i).args))] 24))], 5⟩) (C := none) (by kernel_rfl) rfl (by kernel_rfl) hold0 ?_
   refine SG_sel [1, 2, 3, 4] (s := [(1, (.fp (.agg [(.int .i64 d.kind), (.str d.name), (.int .i64 d.op), (.str d.evr), (.row 5 d.args.length (depAt d.args))]))), (2, (.ptr 1 0)), (3, (.ptr 2 0)), (4, (.int .i64 ((i : Int))))]) (by kernel_rfl) ?_
   refine SG_done (by kernel_rfl) ?_
   refine SW_reg ?_
   refine SO_all [] [1, 2, 3, 4] (y := ⟨[(1, (.fp (.agg [(.int .i64 d.kind), (.str d.name), (.int .i64 d.op), (.str d.evr), (.row 5 d.args.length (depAt d.args))]))), (2, (.ptr 1 0)), (3, (.ptr 2 0)), (4, (.int .i64 ((i : Int) + 1)))], [(1, (.row [(.int .i64 0), (.str []), (.int .i64 0), (.str []), .nils] 24)), (2, (.row [(.int .i64 d.kind), (.str d.name), (.int .i64 d.op), (.str d.evr), (.own 3)] 24)), (3, (.grow (((d.args.take i).map depX) ++ ([(.agg [(.int .i64 ((nth d.args i).kind)), (.str ((nth d.args i).name)), (.int .i64 ((nth d.args i).op)), (.str ((nth d.args i).evr)), (.row 5 (nth d.args i).args.length (depAt (nth d.args i).args))])] : List AV)) 24 5)), (4, (.row [(.int .i64 ((nth d.args i).kind)), (.str ((nth d.args i).name)), (.int .i64 ((nth d.args i).op)), (.str ((nth d.args i).evr)), (.row 5 (nth d.args i).args.length (depAt (nth d.args i).args))] 24))], 5⟩) (C := some ((-9223372036854775808 ≤ (i : Int) + 1 ∧ (i : Int) + 1 ≤ 9223372036854775807))) (by kernel_rfl) (hold (by first | omega | (simp; omega) | (simp; done) | (intros; simp_all; omega) | (intros; simp_all; done))) ?_
   refine ⟨_, (by kernel_rfl : gcS _ _ _ = some ⟨[(1, (.fp (.agg [(.int .i64 d.kind), (.str d.name), (.int .i64 d.op), (.str d.evr), (.row 5 d.args.length (depAt d.args))]))), (2, (.ptr 1 0)), (3, (.ptr 2 0)), (4, (.int .i64 ((i : Int) + 1)))], [(1, (.row [(.int .i64 0), (.str []), (.int .i64 0), (.str []), .nils] 24)), (2, (.row [(.int .i64 d.kind), (.str d.name), (.int .i64 d.op), (.str d.evr), (.own 3)] 24)), (3, (.grow (((d.args.take i).map depX) ++ ([(.agg [(.int .i64 ((nth d.args i).kind)), (.str ((nth d.args i).name)), (.int .i64 ((nth d.args i).op)), (.str ((nth d.args i).evr)), (.row 5 (nth d.args i).args.length (depAt (nth d.args i).args))])] : List AV)) 24 5))], 4⟩), _, ?_, i + 1, ?_, (by rw [take_snoc (by omega), List.map_append]; rfl), rfl⟩
   all_goals omega
  ·refine SN_call (s' := [(1, (.fp (.agg [(.int .i64 d.kind), (.str d.name), (.int .i64 d.op), (.str d.evr), (.row 5 d.args.length (depAt d.args))]))), (2, (.ptr 1 0)), (3, (.ptr 2 0)), (4, (.int .i64 ((i : Int)))), (14, (.ptr 2 4)), (20, (.agg [(.int .i64 ((nth d.args i).kind)), (.str ((nth d.args i).name)), (.int .i64 ((nth d.args i).op)), (.str ((nth d.args i).evr)), (.row 5 (nth d.args i).args.length (depAt (nth d.args i).args))])), (21, (.agg [(.int .i64 ((nth d.args i).kind)), (.str ((nth d.args i).name)), (.int .i64 ((nth d.args i).op)), (.str ((nth d.args i).evr)), (.row 5 (nth d.args i).args.length (depAt (nth d.args i).args))]))]) (fuel := 5) 7 (al := [(.agg [(.int .i64 ((nth d.args i).kind)), (.str ((nth d.args i).name)), (.int .i64 ((nth d.args i).op)), (.str ((nth d.args i).evr)), (.row 5 (nth d.args i).args.length (depAt (nth d.args i).args))])]) (r := (.agg [(.int .i64 ((nth d.args i).kind)), (.str ((nth d.args i).name)), (.int .i64 ((nth d.args i).op)), (.str ((nth d.args i).evr)), (.row 5 (nth d.args i).args.length (depAt (nth d.args i).args))])) rfl rfl (by exact en_5) (by kernel_rfl) (by kernel_rfl) (ih i (by omega)) (by kernel_rfl) ?_
   refine SG_two 1 8 (by kernel_rfl) ?_ ?_
   ·refine SN_only (fuel := 4) 1 [] (y := ⟨[(1, (.fp (.agg [(.int .i64 d.kind), (.str d.name), (.int .i64 d.op), (.str d.evr), (.row 5 d.args.length (depAt d.args))]))), (2, (.ptr 1 0)), (3, (.ptr 2 0)), (4, (.int .i64 ((i : Int)))), (14, (.ptr 2 4)), (20, (.agg [(.int .i64 ((nth d.args i).kind)), (.str ((nth d.args i).name)), (.int .i64 ((nth d.args i).op)), (.str ((nth d.args i).evr)), (.row 5 (nth d.args i).args.length (depAt (nth d.args i).args))])), (21, (.agg [(.int .i64 ((nth d.args i).kind)), (.str ((nth d.args i).name)), (.int .i64 ((nth d.args i).op)), (.str ((nth d.args i).evr)), (.row 5 (nth d.args i).args.length (depAt (nth d.args i).args))])), (15, (.own 3))], [(1, (.row [(.int .i64 0), (.str []), (.int .i64 0), (.str []), .nils] 24)), (2, (.row [(.int .i64 d.kind), (.str d.name), (.int .i64 d.op), (.str d.evr), (.own 3)] 24)), (3, (.grow ((d.args.take i).map depX) 24 5))], 4⟩) (C := none) rfl (by kernel_rfl) hold0 ?_
    refine SG_only (fuel := 3) 8 [] (y := ⟨[(1, (.fp (.agg [(.int .i64 d.kind), (.str d.name), (.int .i64 d.op), (.str d.evr), (.row 5 d.args.length (depAt d.args))]))), (2, (.ptr 1 0)), (3, (.ptr 2 0)), (4, (.int .i64 ((i : Int)))), (14, (.ptr 2 4)), (20, (.agg [(.int .i64 ((nth d.args i).kind)), (.str ((nth d.args i).name)), (.int .i64 ((nth d.args i).op)), (.str ((nth d.args i).evr)), (.row 5 (nth d.args i).args.length (depAt (nth d.args i).args))])), (21, (.agg [(.int .i64 ((nth d.args i).kind)), (.str ((nth d.args i).name)), (.int .i64 ((nth d.args i).op)), (.str ((nth d.args i).evr)), (.row 5 (nth d.args i).args.length (depAt (nth d.args i).args))])), (15, (.own 3)), (22, (.sl 4 0 1 1 false))], [(1, (.row [(.int .i64 0), (.str []), (.int .i64 0), (.str []), .nils] 24)), (2, (.row [(.int .i64 d.kind), (.str d.name), (.int .i64 d.op), (.str d.evr), (.own 3)] 24)), (3, (.grow ((d.args.take i).map depX) 24 5)), (4, (.row [(.int .i64 ((nth d.args i).kind)), (.str ((nth d.args i).name)), (.int .i64 ((nth d.args i).op)), (.str ((nth d.args i).evr)), (.row 5 (nth d.args i).args.length (depAt (nth d.args i).args))] 24))], 5⟩) (C := none) (by kernel_rfl) rfl (by kernel_rfl) hold0 ?_
    refine SG_only (fuel := 2) 9 [] (y := ⟨[(1, (.fp (.agg [(.int .i64 d.kind), (.str d.name), (.int .i64 d.op), (.str d.evr), (.row 5 d.args.length (depAt d.args))]))), (2, (.ptr 1 0)), (3, (.ptr 2 0)), (4, (.int .i64 ((i : Int)))), (14, (.ptr 2 4)), (20, (.agg [(.int .i64 ((nth d.args i).kind)), (.str ((nth d.args i).name)), (.int .i64 ((nth d.args i).op)), (.str ((nth d.args i).evr)), (.row 5 (nth d.args i).args.length (depAt (nth d.args i).args))])), (21, (.agg [(.int .i64 ((nth d.args i).kind)), (.str ((nth d.args i).name)), (.int .i64 ((nth d.args i).op)), (.str ((nth d.args i).evr)), (.row 5 (nth d.args i).args.length (depAt (nth d.args i).args))])), (15, junk), (22, (.sl 4 0 1 1 false)), (23, (.own 3))], [(1, (.row [(.int .i64 0), (.str []), (.int .i64 0), (.str []), .nils] 24)), (2, (.row [(.int .i64 d.kind), (.str d.name), (.int .i64 d.op), (.str d.evr), junk] 24)), (3, (.grow (((d.args.take i).map depX) ++ ([(.agg [(.int .i64 ((nth d.args i).kind)), (.str ((nth d.args i).name)), (.int .i64 ((nth d.args i).op)), (.str ((nth d.args i).evr)), (.row 5 (nth d.args i).args.length (depAt (nth d.args i).args))])] : List AV)) 24 5)), (4, (.row [(.int .i64 ((nth d.args i).kind)), (.str ((nth d.args i).name)), (.int .i64 ((nth d.args i).op)), (.str ((nth d.args i).evr)), (.row 5 (nth d.args i).args.length (depAt (nth d.args i).args))] 24))], 5⟩) (C := some (((((d.args.take i).map depX).length + 1) * 72 ≤ 140737488355328))) (by kernel_rfl) rfl (by kernel_rfl) (hold (by first | omega | (simp; omega) | (simp; done) | (intros; simp_all; omega) | (intros; simp_all; done))) ?_
    refine SG_frees (lz := []) [10] [1, 2, 3, 4, 23, 24] (fuel := 1) (L := #[true, true, true, true, true, true, true, true, true, true, true, false]) (y := ⟨[(1, (.fp (.agg [(.int .i64 d.kind), (.str d.name), (.int .i64 d.op), (.str d.evr), (.row 5 d.args.length (depAt d.args))]))), (2, (.ptr 1 0)), (3, (.ptr 2 0)), (4, (.int .i64 ((i : Int)))), (23, (.own 3)), (24, (.ptr 2 4))], [(1, (.row [(.int .i64 0), (.str []), (.int .i64 0), (.str []), .nils] 24)), (2, (.row [(.int .i64 d.kind), (.str d.name), (.int .i64 d.op), (.str d.evr), junk] 24)), (3, (.grow (((d.args.take i).map depX) ++ ([(.agg [(.int .i64 ((nth d.args i).kind)), (.str ((nth d.args i).name)), (.int .i64 ((nth d.args i).op)), (.str ((nth d.args i).evr)), (.row 5 (nth d.args i).args.length (depAt (nth d.args i).args))])] : List AV)) 24 5)), (4, (.row [(.int .i64 ((nth d.args i).kind)), (.str ((nth d.args i).name)), (.int .i64 ((nth d.args i).op)), (.str ((nth d.args i).evr)), (.row 5 (nth d.args i).args.length (depAt (nth d.args i).args))] 24))], 5⟩) (C := none) (by kernel_rfl) (by kernel_rfl) (by kernel_rfl) hold0 ?_
    refine SG_only (fuel := 0) 11 [] (y := ⟨[(1, (.fp (.agg [(.int .i64 d.kind), (.str d.name), (.int .i64 d.op), (.str d.evr), (.row 5 d.args.length (depAt d.args))]))), (2, (.ptr 1 0)), (3, (.ptr 2 0)), (4, (.int .i64 ((i : Int)))), (23, (.own 3)), (24, (.ptr 2 4))], [(1, (.row [(.int .i64 0), (.str []), (.int .i64 0), (.str []), .nils] 24)), (2, (.row [(.int .i64 d.kind), (.str d.name), (.int .i64 d.op), (.str d.evr), (.own 3)] 24)), (3, (.grow (((d.args.take i).map depX) ++ ([(.agg [(.int .i64 ((nth d.args i).kind)), (.str ((nth d.args i).name)), (.int .i64 ((nth d.args i).op)), (.str ((nth d.args i).evr)), (.row 5 (nth d.args i).args.length (depAt (nth d.args i).args))])] : List AV)) 24 5)), (4, (.row [(.int .i64 ((nth d.args i).kind)), (.str ((nth d.args i).name)), (.int .i64 ((nth d.args i).op)), (.str ((nth d.args i).evr)), (.row 5 (nth d.args i).args.length (depAt (nth d.args i).args))] 24))], 5⟩) (C := none) (by kernel_rfl) rfl (by kernel_rfl) hold0 ?_
    refine SG_sel [1, 2, 3, 4] (s := [(1, (.fp (.agg [(.int .i64 d.kind), (.str d.name), (.int .i64 d.op), (.str d.evr), (.row 5 d.args.length (depAt d.args))]))), (2, (.ptr 1 0)), (3, (.ptr 2 0)), (4, (.int .i64 ((i : Int))))]) (by kernel_rfl) ?_
    refine SG_done (by kernel_rfl) ?_
    refine SW_reg ?_
    refine SO_all [] [1, 2, 3, 4] (y := ⟨[(1, (.fp (.agg [(.int .i64 d.kind), (.str d.name), (.int .i64 d.op), (.str d.evr), (.row 5 d.args.length (depAt d.args))]))), (2, (.ptr 1 0)), (3, (.ptr 2 0)), (4, (.int .i64 ((i : Int) + 1)))], [(1, (.row [(.int .i64 0), (.str []), (.int .i64 0), (.str []), .nils] 24)), (2, (.row [(.int .i64 d.kind), (.str d.name), (.int .i64 d.op), (.str d.evr), (.own 3)] 24)), (3, (.grow (((d.args.take i).map depX) ++ ([(.agg [(.int .i64 ((nth d.args i).kind)), (.str ((nth d.args i).name)), (.int .i64 ((nth d.args i).op)), (.str ((nth d.args i).evr)), (.row 5 (nth d.args i).args.length (depAt (nth d.args i).args))])] : List AV)) 24 5)), (4, (.row [(.int .i64 ((nth d.args i).kind)), (.str ((nth d.args i).name)), (.int .i64 ((nth d.args i).op)), (.str ((nth d.args i).evr)), (.row 5 (nth d.args i).args.length (depAt (nth d.args i).args))] 24))], 5⟩) (C := some ((-9223372036854775808 ≤ (i : Int) + 1 ∧ (i : Int) + 1 ≤ 9223372036854775807))) (by kernel_rfl) (hold (by first | omega | (simp; omega) | (simp; done) | (intros; simp_all; omega) | (intros; simp_all; done))) ?_
    refine ⟨_, (by kernel_rfl : gcS _ _ _ = some ⟨[(1, (.fp (.agg [(.int .i64 d.kind), (.str d.name), (.int .i64 d.op), (.str d.evr), (.row 5 d.args.length (depAt d.args))]))), (2, (.ptr 1 0)), (3, (.ptr 2 0)), (4, (.int .i64 ((i : Int) + 1)))], [(1, (.row [(.int .i64 0), (.str []), (.int .i64 0), (.str []), .nils] 24)), (2, (.row [(.int .i64 d.kind), (.str d.name), (.int .i64 d.op), (.str d.evr), (.own 3)] 24)), (3, (.grow (((d.args.take i).map depX) ++ ([(.agg [(.int .i64 ((nth d.args i).kind)), (.str ((nth d.args i).name)), (.int .i64 ((nth d.args i).op)), (.str ((nth d.args i).evr)), (.row 5 (nth d.args i).args.length (depAt (nth d.args i).args))])] : List AV)) 24 5))], 4⟩), _, ?_, i + 1, ?_, (by rw [take_snoc (by omega), List.map_append]; rfl), rfl⟩
    all_goals omega
   ·refine SN_only (fuel := 4) 8 [] (y := ⟨[(1, (.fp (.agg [(.int .i64 d.kind), (.str d.name), (.int .i64 d.op), (.str d.evr), (.row 5 d.args.length (depAt d.args))]))), (2, (.ptr 1 0)), (3, (.ptr 2 0)), (4, (.int .i64 ((i : Int)))), (14, (.ptr 2 4)), (20, (.agg [(.int .i64 ((nth d.args i).kind)), (.str ((nth d.args i).name)), (.int .i64 ((nth d.args i).op)), (.str ((nth d.args i).evr)), (.row 5 (nth d.args i).args.length (depAt (nth d.args i).args))])), (21, (.agg [(.int .i64 ((nth d.args i).kind)), (.str ((nth d.args i).name)), (.int .i64 ((nth d.args i).op)), (.str ((nth d.args i).evr)), (.row 5 (nth d.args i).args.length (depAt (nth d.args i).args))])), (22, (.sl 4 0 1 1 false))], [(1, (.row [(.int .i64 0), (.str []), (.int .i64 0), (.str []), .nils] 24)), (2, (.row [(.int .i64 d.kind), (.str d.name), (.int .i64 d.op), (.str d.evr), (.own 3)] 24)), (3, (.grow ((d.args.take i).map depX) 24 5)), (4, (.row [(.int .i64 ((nth d.args i).kind)), (.str ((nth d.args i).name)), (.int .i64 ((nth d.args i).op)), (.str ((nth d.args i).evr)), (.row 5 (nth d.args i).args.length (depAt (nth d.args i).args))] 24))], 5⟩) (C := none) rfl (by kernel_rfl) hold0 ?_
    refine SG_only (fuel := 3) 1 [] (y := ⟨[(1, (.fp (.agg [(.int .i64 d.kind), (.str d.name), (.int .i64 d.op), (.str d.evr), (.row 5 d.args.length (depAt d.args))]))), (2, (.ptr 1 0)), (3, (.ptr 2 0)), (4, (.int .i64 ((i : Int)))), (14, (.ptr 2 4)), (20, (.agg [(.int .i64 ((nth d.args i).kind)), (.str ((nth d.args i).name)), (.int .i64 ((nth d.args i).op)), (.str ((nth d.args i).evr)), (.row 5 (nth d.args i).args.length (depAt (nth d.args i).args))])), (21, (.agg [(.int .i64 ((nth d.args i).kind)), (.str ((nth d.args i).name)), (.int .i64 ((nth d.args i).op)), (.str ((nth d.args i).evr)), (.row 5 (nth d.args i).args.length (depAt (nth d.args i).args))])), (22, (.sl 4 0 1 1 false)), (15, (.own 3))], [(1, (.row [(.int .i64 0), (.str []), (.int .i64 0), (.str []), .nils] 24)), (2, (.row [(.int .i64 d.kind), (.str d.name), (.int .i64 d.op), (.str d.evr), (.own 3)] 24)), (3, (.grow ((d.args.take i).map depX) 24 5)), (4, (.row [(.int .i64 ((nth d.args i).kind)), (.str ((nth d.args i).name)), (.int .i64 ((nth d.args i).op)), (.str ((nth d.args i).evr)), (.row 5 (nth d.args i).args.length (depAt (nth d.args i).args))] 24))], 5⟩) (C := none) (by kernel_rfl) rfl (by kernel_rfl) hold0 ?_
    refine SG_only (fuel := 2) 9 [] (y := ⟨[(1, (.fp (.agg [(.int .i64 d.kind), (.str d.name), (.int .i64 d.op), (.str d.evr), (.row 5 d.args.length (depAt d.args))]))), (2, (.ptr 1 0)), (3, (.ptr 2 0)), (4, (.int .i64 ((i : Int)))), (14, (.ptr 2 4)), (20, (.agg [(.int .i64 ((nth d.args i).kind)), (.str ((nth d.args i).name)), (.int .i64 ((nth d.args i).op)), (.str ((nth d.args i).evr)), (.row 5 (nth d.args i).args.length (depAt (nth d.args i).args))])), (21, (.agg [(.int .i64 ((nth d.args i).kind)), (.str ((nth d.args i).name)), (.int .i64 ((nth d.args i).op)), (.str ((nth d.args i).evr)), (.row 5 (nth d.args i).args.length (depAt (nth d.args i).args))])), (22, (.sl 4 0 1 1 false)), (15, junk), (23, (.own 3))], [(1, (.row [(.int .i64 0), (.str []), (.int .i64 0), (.str []), .nils] 24)), (2, (.row [(.int .i64 d.kind), (.str d.name), (.int .i64 d.op), (.str d.evr), junk] 24)), (3, (.grow (((d.args.take i).map depX) ++ ([(.agg [(.int .i64 ((nth d.args i).kind)), (.str ((nth d.args i).name)), (.int .i64 ((nth d.args i).op)), (.str ((nth d.args i).evr)), (.row 5 (nth d.args i).args.length (depAt (nth d.args i).args))])] : List AV)) 24 5)), (4, (.row [(.int .i64 ((nth d.args i).kind)), (.str ((nth d.args i).name)), (.int .i64 ((nth d.args i).op)), (.str ((nth d.args i).evr)), (.row 5 (nth d.args i).args.length (depAt (nth d.args i).args))] 24))], 5⟩) (C := some (((((d.args.take i).map depX).length + 1) * 72 ≤ 140737488355328))) (by kernel_rfl) rfl (by kernel_rfl) (hold (by first | omega | (simp; omega) | (simp; done) | (intros; simp_all; omega) | (intros; simp_all; done))) ?_
    refine SG_frees (lz := []) [10] [1, 2, 3, 4, 23, 24] (fuel := 1) (L := #[true, true, true, true, true, true, true, true, true, true, true, false]) (y := ⟨[(1, (.fp (.agg [(.int .i64 d.kind), (.str d.name), (.int .i64 d.op), (.str d.evr), (.row 5 d.args.length (depAt d.args))]))), (2, (.ptr 1 0)), (3, (.ptr 2 0)), (4, (.int .i64 ((i : Int)))), (23, (.own 3)), (24, (.ptr 2 4))], [(1, (.row [(.int .i64 0), (.str []), (.int .i64 0), (.str []), .nils] 24)), (2, (.row [(.int .i64 d.kind), (.str d.name), (.int .i64 d.op), (.str d.evr), junk] 24)), (3, (.grow (((d.args.take i).map depX) ++ ([(.agg [(.int .i64 ((nth d.args i).kind)), (.str ((nth d.args i).name)), (.int .i64 ((nth d.args i).op)), (.str ((nth d.args i).evr)), (.row 5 (nth d.args i).args.length (depAt (nth d.args i).args))])] : List AV)) 24 5)), (4, (.row [(.int .i64 ((nth d.args i).kind)), (.str ((nth d.args i).name)), (.int .i64 ((nth d.args i).op)), (.str ((nth d.args i).evr)), (.row 5 (nth d.args i).args.length (depAt (nth d.args i).args))] 24))], 5⟩) (C := none) (by kernel_rfl) (by kernel_rfl) (by kernel_rfl) hold0 ?_
    refine SG_only (fuel := 0) 11 [] (y := ⟨[(1, (.fp (.agg [(.int .i64 d.kind), (.str d.name), (.int .i64 d.op), (.str d.evr), (.row 5 d.args.length (depAt d.args))]))), (2, (.ptr 1 0)), (3, (.ptr 2 0)), (4, (.int .i64 ((i : Int)))), (23, (.own 3)), (24, (.ptr 2 4))], [(1, (.row [(.int .i64 0), (.str []), (.int .i64 0), (.str []), .nils] 24)), (2, (.row [(.int .i64 d.kind), (.str d.name), (.int .i64 d.op), (.str d.evr), (.own 3)] 24)), (3, (.grow (((d.args.take i).map depX) ++ ([(.agg [(.int .i64 ((nth d.args i).kind)), (.str ((nth d.args i).name)), (.int .i64 ((nth d.args i).op)), (.str ((nth d.args i).evr)), (.row 5 (nth d.args i).args.length (depAt (nth d.args i).args))])] : List AV)) 24 5)), (4, (.row [(.int .i64 ((nth d.args i).kind)), (.str ((nth d.args i).name)), (.int .i64 ((nth d.args i).op)), (.str ((nth d.args i).evr)), (.row 5 (nth d.args i).args.length (depAt (nth d.args i).args))] 24))], 5⟩) (C := none) (by kernel_rfl) rfl (by kernel_rfl) hold0 ?_
    refine SG_sel [1, 2, 3, 4] (s := [(1, (.fp (.agg [(.int .i64 d.kind), (.str d.name), (.int .i64 d.op), (.str d.evr), (.row 5 d.args.length (depAt d.args))]))), (2, (.ptr 1 0)), (3, (.ptr 2 0)), (4, (.int .i64 ((i : Int))))]) (by kernel_rfl) ?_
    refine SG_done (by kernel_rfl) ?_
    refine SW_reg ?_
    refine SO_all [] [1, 2, 3, 4] (y := ⟨[(1, (.fp (.agg [(.int .i64 d.kind), (.str d.name), (.int .i64 d.op), (.str d.evr), (.row 5 d.args.length (depAt d.args))]))), (2, (.ptr 1 0)), (3, (.ptr 2 0)), (4, (.int .i64 ((i : Int) + 1)))], [(1, (.row [(.int .i64 0), (.str []), (.int .i64 0), (.str []), .nils] 24)), (2, (.row [(.int .i64 d.kind), (.str d.name), (.int .i64 d.op), (.str d.evr), (.own 3)] 24)), (3, (.grow (((d.args.take i).map depX) ++ ([(.agg [(.int .i64 ((nth d.args i).kind)), (.str ((nth d.args i).name)), (.int .i64 ((nth d.args i).op)), (.str ((nth d.args i).evr)), (.row 5 (nth d.args i).args.length (depAt (nth d.args i).args))])] : List AV)) 24 5)), (4, (.row [(.int .i64 ((nth d.args i).kind)), (.str ((nth d.args i).name)), (.int .i64 ((nth d.args i).op)), (.str ((nth d.args i).evr)), (.row 5 (nth d.args i).args.length (depAt (nth d.args i).args))] 24))], 5⟩) (C := some ((-9223372036854775808 ≤ (i : Int) + 1 ∧ (i : Int) + 1 ≤ 9223372036854775807))) (by kernel_rfl) (hold (by first | omega | (simp; omega) | (simp; done) | (intros; simp_all; omega) | (intros; simp_all; done))) ?_
    refine ⟨_, (by kernel_rfl : gcS _ _ _ = some ⟨[(1, (.fp (.agg [(.int .i64 d.kind), (.str d.name), (.int .i64 d.op), (.str d.evr), (.row 5 d.args.length (depAt d.args))]))), (2, (.ptr 1 0)), (3, (.ptr 2 0)), (4, (.int .i64 ((i : Int) + 1)))], [(1, (.row [(.int .i64 0), (.str []), (.int .i64 0), (.str []), .nils] 24)), (2, (.row [(.int .i64 d.kind), (.str d.name), (.int .i64 d.op), (.str d.evr), (.own 3)] 24)), (3, (.grow (((d.args.take i).map depX) ++ ([(.agg [(.int .i64 ((nth d.args i).kind)), (.str ((nth d.args i).name)), (.int .i64 ((nth d.args i).op)), (.str ((nth d.args i).evr)), (.row 5 (nth d.args i).args.length (depAt (nth d.args i).args))])] : List AV)) 24 5))], 4⟩), _, ?_, i + 1, ?_, (by rw [take_snoc (by omega), List.map_append]; rfl), rfl⟩
    all_goals omega
 ·refine SW_exit ?_
  refine SW_seq ?_
  refine SW_reg ?_
  refine SO_all [] [2] (y := ⟨[(2, (.ptr 1 0))], [(1, (.row [(.int .i64 d.kind), (.str d.name), (.int .i64 d.op), (.str d.evr), (.own 3)] 24)), (2, (.row [(.int .i64 d.kind), (.str d.name), (.int .i64 d.op), (.str d.evr), (.own 3)] 24)), (3, (.grow ((d.args.take i).map depX) 24 5))], 4⟩) (C := none) (by kernel_rfl) hold0 ?_
  refine SW_ret ?_
  refine retK_mk (.inl rfl) (al := [(.agg [(.int .i64 d.kind), (.str d.name), (.int .i64 d.op), (.str d.evr), (.own 3)])]) (by kernel_rfl) (rl := [(.agg [(.int .i64 d.kind), (.str d.name), (.int .i64 d.op), (.str d.evr), (.row 5 ((d.args.take i).map depX).length (fun ix => ((d.args.take i).map depX).getD ix junk))])]) (h' := [(1, (.row [(.int .i64 d.kind), (.str d.name), (.int .i64 d.op), (.str d.evr), (.own 3)] 24)), (2, (.row [(.int .i64 d.kind), (.str d.name), (.int .i64 d.op), (.str d.evr), (.own 3)] 24))]) (by kernel_rfl) ?_
  show Same (pack [AV.agg _]) _
  simp only [pack]
  exact (Same.agg (SameL.cons Same.rfl' (SameL.cons Same.rfl' (SameL.cons Same.rfl' (SameL.cons Same.rfl' (SameL.cons (Same.grown (f := depX) (l := d.args) (es := (d.args.take i).map depX) (by rw [List.take_of_length_le (by omega)])) SameL.nil)))))).trans (depX_shut d).same
theorem refOwn_any (d : DepT) : d.size ≤ 4194304 → FnV Tryz.prog 5 [depX d] (depX d) := by
 refine dep_ind (C := fun d => d.size ≤ 4194304 → FnV Tryz.prog 5 [depX d] (depX d)) (fun d ih hs => ?_) d
 refine refOwn_step d hs fun i hi => ?_
 have := size_nth hi
 exact ih i hi (by omega)
theorem take_next {α : Type} [Inhabited α] {l : List α} {i : Nat} (h : i < l.length) : l.take (i + 1) = l.take i ++ [nth l i] := by
 rw [List.take_add_one, nth_eq h]; rfl
theorem range_cut {α β : Type} [Inhabited α] {l : List α} {i m : Nat} (f : α → β) (h : i + m ≤ l.length) : (List.range m).map (fun k => f (nth l (i + k))) = ((l.drop i).take m).map f := by
 refine List.ext_getElem (by simp; omega) fun j h1 h2 => ?_
 simp only [List.length_map, List.length_range] at h1
 simp only [List.getElem_map, List.getElem_range, List.getElem_take, List.getElem_drop, nth, List.getElem?_eq_getElem (show i + j < l.length by omega), Option.getD_some]
theorem range_tail {α β : Type} [Inhabited α] {l : List α} {i : Nat} (f : α → β) (h : i ≤ l.length) : (List.range (l.length - i)).map (fun k => f (nth l (i + k))) = (l.drop i).map f := by
 rw [range_cut f (by omega), List.take_of_length_le (by simp)]
def putL (s : List UInt8) : List (List UInt8) → List (List UInt8)
 | [] => [s]
 | x :: r => if Op.bytesLess x s then x :: putL s r else if x = s then x :: r else s :: x :: r
theorem putL_go {s : List UInt8} {l : List (List UInt8)} {i : Nat} (hi : i < l.length) (h : Op.bytesLess (nth l i) s = true) : putL s (l.drop i) = nth l i :: putL s (l.drop (i + 1)) := by
 rw [drop_nth hi, putL, if_pos h]
theorem putL_is {s : List UInt8} {l : List (List UInt8)} {i : Nat} (hi : i < l.length) (h : ¬ Op.bytesLess (nth l i) s = true) (h2 : nth l i = s) : putL s (l.drop i) = l.drop i := by
 rw [drop_nth hi, putL, if_neg h, if_pos h2]
theorem putL_new {s : List UInt8} {l : List (List UInt8)} {i : Nat} (h : i < l.length → ¬ Op.bytesLess (nth l i) s = true ∧ ¬ nth l i = s) : putL s (l.drop i) = s :: l.drop i := by
 by_cases hi : i < l.length
 ·rw [drop_nth hi, putL, if_neg (h hi).1, if_neg (h hi).2]
 ·rw [List.drop_of_length_le (by omega)]; rfl
set_option maxHeartbeats 400000 in
set_option maxRecDepth 100000 in
theorem refPut_any (l : List (List UInt8)) (s : List UInt8) (hl : l.length ≤ 4611686018427) :
  FnV Tryz.prog 39 [(strs l), (.str s)] (strs (putL s l)) := by
 refine FnV_intro [.tmp 4] Tryz.func39 rfl Tryz.ntmps39 rfl rfl (fun B F hF => ?_)
 refine SW_seq ?_
 refine SW_reg ?_
 refine SO_all [] [0, 1] (y := ⟨[(0, (strs l)), (1, (.str s))], [], 0⟩) (C := none) (by kernel_rfl) hold0 ?_
 refine SW_seq ?_
 refine SW_reg ?_
 refine SO_all [] [0, 1, 5] (y := ⟨[(0, (strs l)), (1, (.str s)), (5, (.int .i64 0))], [], 0⟩) (C := none) (by kernel_rfl) hold0 ?_
 refine SW_seq ?_
 refine SW_block ?_
 refine SW_loopg (fun g y => ∃ (i : Nat), i ≤ l.length ∧ putL s l = l.take i ++ putL s (l.drop i) ∧ y = ⟨[(0, (strs l)), (1, (.str s)), (5, (.int .i64 ((i : Int))))], [], 0⟩ ∧ g = l.length - i) [0, 1, 5] 0 (y := ⟨[(0, (strs l)), (1, (.str s)), (5, (.int .i64 0))], [], 0⟩) _ (by omega) (by kernel_rfl) ⟨0, (by omega), (by rfl), (by kernel_rfl), rfl⟩ ?_
 rintro g1 y1 ⟨i, f1_1, f1_2, rfl, rfl⟩
 refine SW_seq ?_
 refine SW_seq ?_
 refine SW_reg ?_
 refine SO_all [11, 12, 13, 14, 15, 16] [0, 1, 5, 17] (y := ⟨[(0, (strs l)), (1, (.str s)), (5, (.int .i64 ((i : Int)))), (17, (.bool ((decide ((i : Int) < (l.length : Int))) && (Op.bytesLess (nth l i) s))))], [], 0⟩) (C := some (((decide ((i : Int) < (l.length : Int))) = true → ((decide ((i : Int) < (l.length : Int))) = true ∧ (decide ((i : Int) < (l.length : Int))) = true) ∧ (0 ≤ (i : Int) ∧ i < l.length)) ∧ ((decide ((i : Int) < (l.length : Int))) = true → (decide ((i : Int) < (l.length : Int))) = true) ∧ ((decide ((i : Int) < (l.length : Int))) = true → (decide ((i : Int) < (l.length : Int))) = true ∧ (decide ((i : Int) < (l.length : Int))) = true) ∧ ((decide ((i : Int) < (l.length : Int))) = true → (decide ((i : Int) < (l.length : Int))) = true))) (by kernel_rfl) (hold (by first | omega | (simp; omega) | (simp; done) | (intros; simp_all; omega) | (intros; simp_all; done))) ?_
 refine SW_cond (q := (decide ((i : Int) < (l.length : Int))) && (Op.bytesLess (nth l i) s)) rfl (fun c1 => ?_) (fun c1 => ?_)
 ·try simp only [Bool.and_eq_true, Bool.or_eq_true, Bool.and_eq_false_iff, Bool.or_eq_false_iff, Bool.not_eq_true', Bool.not_eq_false', decide_eq_true_eq, decide_eq_false_iff_not] at c1
  refine SW_skip ?_
  refine SW_block ?_
  refine SW_reg ?_
  refine SO_all [] [0, 1, 5] (y := ⟨[(0, (strs l)), (1, (.str s)), (5, (.int .i64 ((i : Int) + 1)))], [], 0⟩) (C := some ((-9223372036854775808 ≤ (i : Int) + 1 ∧ (i : Int) + 1 ≤ 9223372036854775807))) (by kernel_rfl) (hold (by first | omega | (simp; omega) | (simp; done) | (intros; simp_all; omega) | (intros; simp_all; done))) ?_
  refine ⟨_, (by kernel_rfl : gcS _ _ _ = some ⟨[(0, (strs l)), (1, (.str s)), (5, (.int .i64 ((i : Int) + 1)))], [], 0⟩), _, ?_, i + 1, ?_, ?_, (by kernel_rfl), rfl⟩
  all_goals first | omega | skip
  rw [f1_2, putL_go (by omega) (by simp_all), take_next (by omega), List.append_assoc]; rfl
 ·try simp only [Bool.and_eq_true, Bool.or_eq_true, Bool.and_eq_false_iff, Bool.or_eq_false_iff, Bool.not_eq_true', Bool.not_eq_false', decide_eq_true_eq, decide_eq_false_iff_not] at c1
  refine SW_exit ?_
  refine SW_seq ?_
  refine SW_seq ?_
  refine SW_reg ?_
  refine SO_all [25, 26, 27, 28, 29, 30] [0, 1, 5, 31] (y := ⟨[(0, (strs l)), (1, (.str s)), (5, (.int .i64 ((i : Int)))), (31, (.bool ((decide ((i : Int) < (l.length : Int))) && (decide (nth l i = s)))))], [], 0⟩) (C := some (((decide ((i : Int) < (l.length : Int))) = true → ((decide ((i : Int) < (l.length : Int))) = true ∧ (decide ((i : Int) < (l.length : Int))) = true) ∧ (0 ≤ (i : Int) ∧ i < l.length)) ∧ ((decide ((i : Int) < (l.length : Int))) = true → (decide ((i : Int) < (l.length : Int))) = true) ∧ ((decide ((i : Int) < (l.length : Int))) = true → (decide ((i : Int) < (l.length : Int))) = true ∧ (decide ((i : Int) < (l.length : Int))) = true) ∧ ((decide ((i : Int) < (l.length : Int))) = true → (decide ((i : Int) < (l.length : Int))) = true))) (by kernel_rfl) (hold (by first | omega | (simp; omega) | (simp; done) | (intros; simp_all; omega) | (intros; simp_all; done))) ?_
  refine SW_cond (q := (decide ((i : Int) < (l.length : Int))) && (decide (nth l i = s))) rfl (fun c2 => ?_) (fun c2 => ?_)
  ·try simp only [Bool.and_eq_true, Bool.or_eq_true, Bool.and_eq_false_iff, Bool.or_eq_false_iff, Bool.not_eq_true', Bool.not_eq_false', decide_eq_true_eq, decide_eq_false_iff_not] at c2
   refine SW_seq ?_
   refine SW_reg ?_
   refine SO_all [] [4] (y := ⟨[(4, (strs l))], [], 0⟩) (C := none) (by kernel_rfl) hold0 ?_
   refine SW_ret ?_
   refine retK_mk (.inl rfl) (al := [(strs l)]) (by kernel_rfl) (rl := [(strs l)]) (h' := []) (by kernel_rfl) ?_
   exact Same.of_eq (by rw [f1_2, putL_is (by omega) (by simp_all) (by simp_all), List.take_append_drop]; rfl)
  ·try simp only [Bool.and_eq_true, Bool.or_eq_true, Bool.and_eq_false_iff, Bool.or_eq_false_iff, Bool.not_eq_true', Bool.not_eq_false', decide_eq_true_eq, decide_eq_false_iff_not] at c2
   refine SW_skip ?_
   refine SW_seq ?_
   refine SW_draw (by kernel_rfl) (fun F1 hF1 => ?_)
   refine SG_frees (lz := []) [1, 2, 3, 5, 8, 9, 10] [36, 38, 43] (fuel := 6) (L := #[false, true, true, true, false, true, false, false, true, true, true, false, false]) (y := ⟨[(36, (.row 1 (i - 0) (fun kx => (.str (nth l (0 + kx)))))), (38, (.str s)), (43, (.row 1 (l.length - i) (fun kx => (.str (nth l (i + kx))))))], [], 0⟩) (C := some ((0 ≤ (0 : Int) ∧ (0 : Int) ≤ (i : Int) ∧ (i : Int) ≤ (l.length : Int)) ∧ (0 ≤ (i : Int) ∧ (i : Int) ≤ (l.length : Int) ∧ (l.length : Int) ≤ (l.length : Int)))) (by kernel_rfl) (by kernel_rfl) (by kernel_rfl) (hold (by first | omega | (simp; omega) | (simp; done) | (intros; simp_all; omega) | (intros; simp_all; done))) ?_
   refine SG_two 0 6 (by kernel_rfl) ?_ ?_
   ·refine SN_only (fuel := 5) 0 [] (y := ⟨[(36, (.row 1 (i - 0) (fun kx => (.str (nth l (0 + kx)))))), (38, (.str s)), (43, (.row 1 (l.length - i) (fun kx => (.str (nth l (i + kx)))))), (33, (.sl 0 0 0 0 false))], [(0, (.row [] 9))], 1⟩) (C := none) rfl (by kernel_rfl) hold0 ?_
    refine SG_two 4 6 (by kernel_rfl) ?_ ?_
    ·refine SN_only (fuel := 4) 4 [] (y := ⟨[(36, (.row 1 (i - 0) (fun kx => (.str (nth l (0 + kx)))))), (38, (.str s)), (43, (.row 1 (l.length - i) (fun kx => (.str (nth l (i + kx)))))), (33, (.sl 0 0 0 0 false)), (37, (.own 1))], [(1, (.grow (([] : List AV) ++ ((List.range (i - 0)).map (fun kx => ((.str (nth l (0 + kx))) : AV)))) 9 1))], 2⟩) (C := some (((([] : List AV).length + (i - 0)) * 16 ≤ 140737488355328))) rfl (by kernel_rfl) (hold (by first | omega | (simp; omega) | (simp; done) | (intros; simp_all; omega) | (intros; simp_all; done))) ?_
     refine SG_only (fuel := 3) 6 [] (y := ⟨[(36, (.row 1 (i - 0) (fun kx => (.str (nth l (0 + kx)))))), (38, (.str s)), (43, (.row 1 (l.length - i) (fun kx => (.str (nth l (i + kx)))))), (33, (.sl 0 0 0 0 false)), (37, (.own 1)), (39, (.sl 2 0 1 1 false))], [(1, (.grow (([] : List AV) ++ ((List.range (i - 0)).map (fun kx => ((.str (nth l (0 + kx))) : AV)))) 9 1)), (2, (.row [(.str s)] 9))], 3⟩) (C := none) (by kernel_rfl) rfl (by kernel_rfl) hold0 ?_
     refine SG_only (fuel := 2) 7 [] (y := ⟨[(36, (.row 1 (i - 0) (fun kx => (.str (nth l (0 + kx)))))), (38, (.str s)), (43, (.row 1 (l.length - i) (fun kx => (.str (nth l (i + kx)))))), (33, (.sl 0 0 0 0 false)), (37, junk), (39, (.sl 2 0 1 1 false)), (40, (.own 1))], [(1, (.grow ((([] : List AV) ++ ((List.range (i - 0)).map (fun kx => ((.str (nth l (0 + kx))) : AV)))) ++ ([(.str s)] : List AV)) 9 1)), (2, (.row [(.str s)] 9))], 3⟩) (C := some ((((([] : List AV) ++ ((List.range (i - 0)).map (fun kx => ((.str (nth l (0 + kx))) : AV)))).length + 1) * 16 ≤ 140737488355328))) (by kernel_rfl) rfl (by kernel_rfl) (hold (by first | omega | (simp; omega) | (simp; done) | (intros; simp_all; omega) | (intros; simp_all; done))) ?_
     refine SG_only (fuel := 1) 11 [] (y := ⟨[(36, (.row 1 (i - 0) (fun kx => (.str (nth l (0 + kx)))))), (38, (.str s)), (43, (.row 1 (l.length - i) (fun kx => (.str (nth l (i + kx)))))), (33, (.sl 0 0 0 0 false)), (37, junk), (39, (.sl 2 0 1 1 false)), (40, junk), (44, (.own 1))], [(1, (.grow (((([] : List AV) ++ ((List.range (i - 0)).map (fun kx => ((.str (nth l (0 + kx))) : AV)))) ++ ([(.str s)] : List AV)) ++ ((List.range (l.length - i)).map (fun kx => ((.str (nth l (i + kx))) : AV)))) 9 1)), (2, (.row [(.str s)] 9))], 3⟩) (C := some (((((([] : List AV) ++ ((List.range (i - 0)).map (fun kx => ((.str (nth l (0 + kx))) : AV)))) ++ ([(.str s)] : List AV)).length + (l.length - i)) * 16 ≤ 140737488355328))) (by kernel_rfl) rfl (by kernel_rfl) (hold (by first | omega | (simp; omega) | (simp; done) | (intros; simp_all; omega) | (intros; simp_all; done))) ?_
     refine SG_frees (lz := []) [12] [4] (fuel := 0) (L := #[true, true, true, true, true, true, true, true, true, true, true, true, true]) (y := ⟨[(4, (.own 1))], [(1, (.grow (((([] : List AV) ++ ((List.range (i - 0)).map (fun kx => ((.str (nth l (0 + kx))) : AV)))) ++ ([(.str s)] : List AV)) ++ ((List.range (l.length - i)).map (fun kx => ((.str (nth l (i + kx))) : AV)))) 9 1)), (2, (.row [(.str s)] 9))], 3⟩) (C := none) (by kernel_rfl) (by kernel_rfl) (by kernel_rfl) hold0 ?_
     refine SG_sel [4] (s := [(4, (.own 1))]) (by kernel_rfl) ?_
     refine SG_done (by kernel_rfl) ?_
     refine SW_ret ?_
     refine retK_mk (.inl rfl) (al := [(.own 1)]) (by kernel_rfl) (rl := [(.row 1 (((([] : List AV) ++ ((List.range (i - 0)).map (fun kx => ((.str (nth l (0 + kx))) : AV)))) ++ ([(.str s)] : List AV)) ++ ((List.range (l.length - i)).map (fun kx => ((.str (nth l (i + kx))) : AV)))).length (fun ix => (((([] : List AV) ++ ((List.range (i - 0)).map (fun kx => ((.str (nth l (0 + kx))) : AV)))) ++ ([(.str s)] : List AV)) ++ ((List.range (l.length - i)).map (fun kx => ((.str (nth l (i + kx))) : AV)))).getD ix junk))]) (h' := [(2, (.row [(.str s)] 9))]) (by kernel_rfl) ?_
     simp only [pack]
     exact Same.grown (f := AV.str) (l := putL s l) (by rw [f1_2, putL_new (fun _ => by simp_all), range_cut AV.str (by omega), range_tail AV.str (by omega)]; simp [chunk])
    ·refine SN_only (fuel := 4) 6 [] (y := ⟨[(36, (.row 1 (i - 0) (fun kx => (.str (nth l (0 + kx)))))), (38, (.str s)), (43, (.row 1 (l.length - i) (fun kx => (.str (nth l (i + kx)))))), (33, (.sl 0 0 0 0 false)), (39, (.sl 1 0 1 1 false))], [(0, (.row [] 9)), (1, (.row [(.str s)] 9))], 2⟩) (C := none) rfl (by kernel_rfl) hold0 ?_
     refine SG_only (fuel := 3) 4 [] (y := ⟨[(36, (.row 1 (i - 0) (fun kx => (.str (nth l (0 + kx)))))), (38, (.str s)), (43, (.row 1 (l.length - i) (fun kx => (.str (nth l (i + kx)))))), (33, (.sl 0 0 0 0 false)), (39, (.sl 1 0 1 1 false)), (37, (.own 2))], [(1, (.row [(.str s)] 9)), (2, (.grow (([] : List AV) ++ ((List.range (i - 0)).map (fun kx => ((.str (nth l (0 + kx))) : AV)))) 9 1))], 3⟩) (C := some (((([] : List AV).length + (i - 0)) * 16 ≤ 140737488355328))) (by kernel_rfl) rfl (by kernel_rfl) (hold (by first | omega | (simp; omega) | (simp; done) | (intros; simp_all; omega) | (intros; simp_all; done))) ?_
     refine SG_only (fuel := 2) 7 [] (y := ⟨[(36, (.row 1 (i - 0) (fun kx => (.str (nth l (0 + kx)))))), (38, (.str s)), (43, (.row 1 (l.length - i) (fun kx => (.str (nth l (i + kx)))))), (33, (.sl 0 0 0 0 false)), (39, (.sl 1 0 1 1 false)), (37, junk), (40, (.own 2))], [(1, (.row [(.str s)] 9)), (2, (.grow ((([] : List AV) ++ ((List.range (i - 0)).map (fun kx => ((.str (nth l (0 + kx))) : AV)))) ++ ([(.str s)] : List AV)) 9 1))], 3⟩) (C := some ((((([] : List AV) ++ ((List.range (i - 0)).map (fun kx => ((.str (nth l (0 + kx))) : AV)))).length + 1) * 16 ≤ 140737488355328))) (by kernel_rfl) rfl (by kernel_rfl) (hold (by first | omega | (simp; omega) | (simp; done) | (intros; simp_all; omega) | (intros; simp_all; done))) ?_
     refine SG_only (fuel := 1) 11 [] (y := ⟨[(36, (.row 1 (i - 0) (fun kx => (.str (nth l (0 + kx)))))), (38, (.str s)), (43, (.row 1 (l.length - i) (fun kx => (.str (nth l (i + kx)))))), (33, (.sl 0 0 0 0 false)), (39, (.sl 1 0 1 1 false)), (37, junk), (40, junk), (44, (.own 2))], [(1, (.row [(.str s)] 9)), (2, (.grow (((([] : List AV) ++ ((List.range (i - 0)).map (fun kx => ((.str (nth l (0 + kx))) : AV)))) ++ ([(.str s)] : List AV)) ++ ((List.range (l.length - i)).map (fun kx => ((.str (nth l (i + kx))) : AV)))) 9 1))], 3⟩) (C := some (((((([] : List AV) ++ ((List.range (i - 0)).map (fun kx => ((.str (nth l (0 + kx))) : AV)))) ++ ([(.str s)] : List AV)).length + (l.length - i)) * 16 ≤ 140737488355328))) (by kernel_rfl) rfl (by kernel_rfl) (hold (by first | omega | (simp; omega) | (simp; done) | (intros; simp_all; omega) | (intros; simp_all; done))) ?_
     refine SG_frees (lz := []) [12] [4] (fuel := 0) (L := #[true, true, true, true, true, true, true, true, true, true, true, true, true]) (y := ⟨[(4, (.own 2))], [(1, (.row [(.str s)] 9)), (2, (.grow (((([] : List AV) ++ ((List.range (i - 0)).map (fun kx => ((.str (nth l (0 + kx))) : AV)))) ++ ([(.str s)] : List AV)) ++ ((List.range (l.length - i)).map (fun kx => ((.str (nth l (i + kx))) : AV)))) 9 1))], 3⟩) (C := none) (by kernel_rfl) (by kernel_rfl) (by kernel_rfl) hold0 ?_
     refine SG_sel [4] (s := [(4, (.own 2))]) (by kernel_rfl) ?_
     refine SG_done (by kernel_rfl) ?_
     refine SW_ret ?_
     refine retK_mk (.inl rfl) (al := [(.own 2)]) (by kernel_rfl) (rl := [(.row 1 (((([] : List AV) ++ ((List.range (i - 0)).map (fun kx => ((.str (nth l (0 + kx))) : AV)))) ++ ([(.str s)] : List AV)) ++ ((List.range (l.length - i)).map (fun kx => ((.str (nth l (i + kx))) : AV)))).length (fun ix => (((([] : List AV) ++ ((List.range (i - 0)).map (fun kx => ((.str (nth l (0 + kx))) : AV)))) ++ ([(.str s)] : List AV)) ++ ((List.range (l.length - i)).map (fun kx => ((.str (nth l (i + kx))) : AV)))).getD ix junk))]) (h' := [(1, (.row [(.str s)] 9))]) (by kernel_rfl) ?_
     simp only [pack]
     exact Same.grown (f := AV.str) (l := putL s l) (by rw [f1_2, putL_new (fun _ => by simp_all), range_cut AV.str (by omega), range_tail AV.str (by omega)]; simp [chunk])
   ·refine SN_only (fuel := 5) 6 [] (y := ⟨[(36, (.row 1 (i - 0) (fun kx => (.str (nth l (0 + kx)))))), (38, (.str s)), (43, (.row 1 (l.length - i) (fun kx => (.str (nth l (i + kx)))))), (39, (.sl 0 0 1 1 false))], [(0, (.row [(.str s)] 9))], 1⟩) (C := none) rfl (by kernel_rfl) hold0 ?_
    refine SG_only (fuel := 4) 0 [] (y := ⟨[(36, (.row 1 (i - 0) (fun kx => (.str (nth l (0 + kx)))))), (38, (.str s)), (43, (.row 1 (l.length - i) (fun kx => (.str (nth l (i + kx)))))), (39, (.sl 0 0 1 1 false)), (33, (.sl 1 0 0 0 false))], [(0, (.row [(.str s)] 9)), (1, (.row [] 9))], 2⟩) (C := none) (by kernel_rfl) rfl (by kernel_rfl) hold0 ?_
    refine SG_only (fuel := 3) 4 [] (y := ⟨[(36, (.row 1 (i - 0) (fun kx => (.str (nth l (0 + kx)))))), (38, (.str s)), (43, (.row 1 (l.length - i) (fun kx => (.str (nth l (i + kx)))))), (39, (.sl 0 0 1 1 false)), (33, (.sl 1 0 0 0 false)), (37, (.own 2))], [(0, (.row [(.str s)] 9)), (2, (.grow (([] : List AV) ++ ((List.range (i - 0)).map (fun kx => ((.str (nth l (0 + kx))) : AV)))) 9 1))], 3⟩) (C := some (((([] : List AV).length + (i - 0)) * 16 ≤ 140737488355328))) (by kernel_rfl) rfl (by kernel_rfl) (hold (by first | omega | (simp; omega) | (simp; done) | (intros; simp_all; omega) | (intros; simp_all; done))) ?_
    refine SG_only (fuel := 2) 7 [] (y := ⟨[(36, (.row 1 (i - 0) (fun kx => (.str (nth l (0 + kx)))))), (38, (.str s)), (43, (.row 1 (l.length - i) (fun kx => (.str (nth l (i + kx)))))), (39, (.sl 0 0 1 1 false)), (33, (.sl 1 0 0 0 false)), (37, junk), (40, (.own 2))], [(0, (.row [(.str s)] 9)), (2, (.grow ((([] : List AV) ++ ((List.range (i - 0)).map (fun kx => ((.str (nth l (0 + kx))) : AV)))) ++ ([(.str s)] : List AV)) 9 1))], 3⟩) (C := some ((((([] : List AV) ++ ((List.range (i - 0)).map (fun kx => ((.str (nth l (0 + kx))) : AV)))).length + 1) * 16 ≤ 140737488355328))) (by kernel_rfl) rfl (by kernel_rfl) (hold (by first | omega | (simp; omega) | (simp; done) | (intros; simp_all; omega) | (intros; simp_all; done))) ?_
    refine SG_only (fuel := 1) 11 [] (y := ⟨[(36, (.row 1 (i - 0) (fun kx => (.str (nth l (0 + kx)))))), (38, (.str s)), (43, (.row 1 (l.length - i) (fun kx => (.str (nth l (i + kx)))))), (39, (.sl 0 0 1 1 false)), (33, (.sl 1 0 0 0 false)), (37, junk), (40, junk), (44, (.own 2))], [(0, (.row [(.str s)] 9)), (2, (.grow (((([] : List AV) ++ ((List.range (i - 0)).map (fun kx => ((.str (nth l (0 + kx))) : AV)))) ++ ([(.str s)] : List AV)) ++ ((List.range (l.length - i)).map (fun kx => ((.str (nth l (i + kx))) : AV)))) 9 1))], 3⟩) (C := some (((((([] : List AV) ++ ((List.range (i - 0)).map (fun kx => ((.str (nth l (0 + kx))) : AV)))) ++ ([(.str s)] : List AV)).length + (l.length - i)) * 16 ≤ 140737488355328))) (by kernel_rfl) rfl (by kernel_rfl) (hold (by first | omega | (simp; omega) | (simp; done) | (intros; simp_all; omega) | (intros; simp_all; done))) ?_
    refine SG_frees (lz := []) [12] [4] (fuel := 0) (L := #[true, true, true, true, true, true, true, true, true, true, true, true, true]) (y := ⟨[(4, (.own 2))], [(0, (.row [(.str s)] 9)), (2, (.grow (((([] : List AV) ++ ((List.range (i - 0)).map (fun kx => ((.str (nth l (0 + kx))) : AV)))) ++ ([(.str s)] : List AV)) ++ ((List.range (l.length - i)).map (fun kx => ((.str (nth l (i + kx))) : AV)))) 9 1))], 3⟩) (C := none) (by kernel_rfl) (by kernel_rfl) (by kernel_rfl) hold0 ?_
    refine SG_sel [4] (s := [(4, (.own 2))]) (by kernel_rfl) ?_
    refine SG_done (by kernel_rfl) ?_
    refine SW_ret ?_
    refine retK_mk (.inl rfl) (al := [(.own 2)]) (by kernel_rfl) (rl := [(.row 1 (((([] : List AV) ++ ((List.range (i - 0)).map (fun kx => ((.str (nth l (0 + kx))) : AV)))) ++ ([(.str s)] : List AV)) ++ ((List.range (l.length - i)).map (fun kx => ((.str (nth l (i + kx))) : AV)))).length (fun ix => (((([] : List AV) ++ ((List.range (i - 0)).map (fun kx => ((.str (nth l (0 + kx))) : AV)))) ++ ([(.str s)] : List AV)) ++ ((List.range (l.length - i)).map (fun kx => ((.str (nth l (i + kx))) : AV)))).getD ix junk))]) (h' := [(0, (.row [(.str s)] 9))]) (by kernel_rfl) ?_
    simp only [pack]
    exact Same.grown (f := AV.str) (l := putL s l) (by rw [f1_2, putL_new (fun _ => by simp_all), range_cut AV.str (by omega), range_tail AV.str (by omega)]; simp [chunk])
mutual
def namesL : DepT → List (List UInt8) → List (List UInt8)
 | .mk k nm _ _ args, l => argsL args (if k = 1 then putL nm l else l)
def argsL : List DepT → List (List UInt8) → List (List UInt8)
 | [], l => l
 | d :: r, l => argsL r (namesL d l)
end
def ownL (d : DepT) (l : List (List UInt8)) : List (List UInt8) := if d.kind = 1 then putL d.name l else l
theorem namesL_eq (d : DepT) (l : List (List UInt8)) : namesL d l = argsL d.args (ownL d l) := by cases d; unfold namesL; rfl
theorem argsL_snoc : ∀ (r : List DepT) (d : DepT) (l : List (List UInt8)), argsL (r ++ [d]) l = namesL d (argsL r l)
 | [], d, l => rfl
 | x :: r, d, l => argsL_snoc r d (namesL x l)
theorem argsL_take {r : List DepT} {i : Nat} (h : i < r.length) (l : List (List UInt8)) : argsL (r.take (i + 1)) l = namesL (nth r i) (argsL (r.take i) l) := by rw [take_next h, argsL_snoc]
theorem putL_len (s : List UInt8) : ∀ l : List (List UInt8), (putL s l).length ≤ l.length + 1
 | [] => Nat.le_refl _
 | x :: r => by
  have := putL_len s r
  unfold putL
  split
  ·simp only [List.length_cons]; omega
  ·split <;> simp
mutual
theorem namesL_len : ∀ (d : DepT) (l : List (List UInt8)), (namesL d l).length ≤ l.length + d.size
 | .mk k nm op ev args, l => by
  unfold namesL
  have h1 := argsL_len args (if k = 1 then putL nm l else l)
  have h2 : (if k = 1 then putL nm l else l).length ≤ l.length + 1 := by
   split
   ·exact putL_len nm l
   ·omega
  simp only [DepT.size]; omega
theorem argsL_len : ∀ (r : List DepT) (l : List (List UInt8)), (argsL r l).length ≤ l.length + argsSize r
 | [], l => by simp [argsL, argsSize]
 | d :: r, l => by
  have h1 := argsL_len r (namesL d l)
  have h2 := namesL_len d l
  simp only [argsL, argsSize]; omega
end
theorem ownL_len (d : DepT) (l : List (List UInt8)) : (ownL d l).length ≤ l.length + 1 := by
 unfold ownL; split
 ·exact putL_len _ l
 ·omega
set_option maxHeartbeats 400000 in
set_option maxRecDepth 100000 in
theorem refNames_step (d : DepT) (l : List (List UInt8)) (hs : l.length + d.size ≤ 4611686018) (ih : ∀ i l, i < d.args.length → l.length + (nth d.args i).size ≤ 4611686018 → FnV Tryz.prog 22 [depX (nth d.args i), strs l] (strs (namesL (nth d.args i) l))) :
  FnV Tryz.prog 22 [(.agg [(.int .i64 d.kind), (.str d.name), (.int .i64 d.op), (.str d.evr), (.row 5 d.args.length (depAt d.args))]), (strs l)] (strs (namesL d l)) := by
 have hz := size_parts d
 have hal := args_le d.args
 have ho := ownL_len d l
 refine FnV_intro [.tmp 4] Tryz.func22 rfl Tryz.ntmps22 rfl rfl (fun B F hF => ?_)
 refine SW_seq ?_
 refine SW_reg ?_
 refine SO_run 1 [] [1, 2] (y := ⟨[(1, (strs l)), (2, (.ptr 0 0))], [(0, (.row [(.int .i64 d.kind), (.str d.name), (.int .i64 d.op), (.str d.evr), (.row 5 d.args.length (depAt d.args))] 24))], 1⟩) (C := none) (by kernel_rfl) hold0 ?_
 refine SO_still 2 (y := ⟨[(1, (strs l)), (2, (.fp (.agg [(.int .i64 d.kind), (.str d.name), (.int .i64 d.op), (.str d.evr), (.row 5 d.args.length (depAt d.args))])))], [], 1⟩) (by kernel_rfl) ?_
 refine SO_all [] [1, 2] (y := ⟨[(1, (strs l)), (2, (.fp (.agg [(.int .i64 d.kind), (.str d.name), (.int .i64 d.op), (.str d.evr), (.row 5 d.args.length (depAt d.args))])))], [], 1⟩) (C := none) (by kernel_rfl) hold0 ?_
 refine SW_cut (fun y => ∃ y', gcS [1, 2] 1 y = some y' ∧ y' = ⟨[(1, (strs (ownL d l))), (2, (.fp (.agg [(.int .i64 d.kind), (.str d.name), (.int .i64 d.op), (.str d.evr), (.row 5 d.args.length (depAt d.args))])))], [], 1⟩) ?_ ?_
 ·refine SW_seq ?_
  refine SW_reg ?_
  refine SO_all [] [1, 2, 8] (y := ⟨[(1, (strs l)), (2, (.fp (.agg [(.int .i64 d.kind), (.str d.name), (.int .i64 d.op), (.str d.evr), (.row 5 d.args.length (depAt d.args))]))), (8, (.bool (decide (d.kind = 1))))], [], 1⟩) (C := none) (by kernel_rfl) hold0 ?_
  refine SW_if (p := d.kind = 1) rfl (fun c1 => ?_) (fun c1 => ?_)
  ·refine SW_reg ?_
   refine SO_run 3 [] [2, 9, 11] (y := ⟨[(2, (.fp (.agg [(.int .i64 d.kind), (.str d.name), (.int .i64 d.op), (.str d.evr), (.row 5 d.args.length (depAt d.args))]))), (9, (strs l)), (11, (.str d.name))], [], 1⟩) (C := none) (by kernel_rfl) hold0 ?_
   refine SO_call (s' := [(2, (.fp (.agg [(.int .i64 d.kind), (.str d.name), (.int .i64 d.op), (.str d.evr), (.row 5 d.args.length (depAt d.args))]))), (9, (strs l)), (11, (.str d.name)), (12, (strs (putL d.name l)))]) (al := [(strs l), (.str d.name)]) (r := (strs (putL d.name l))) rfl (by exact en_39) (by kernel_rfl) (by kernel_rfl) (refPut_any l d.name (by omega)) (by kernel_rfl) ?_
   refine SO_all [] [1, 2] (y := ⟨[(1, (strs (putL d.name l))), (2, (.fp (.agg [(.int .i64 d.kind), (.str d.name), (.int .i64 d.op), (.str d.evr), (.row 5 d.args.length (depAt d.args))])))], [], 1⟩) (C := none) (by kernel_rfl) hold0 ?_
   refine ⟨_, (by kernel_rfl : gcS _ _ _ = some ⟨[(1, (strs (putL d.name l))), (2, (.fp (.agg [(.int .i64 d.kind), (.str d.name), (.int .i64 d.op), (.str d.evr), (.row 5 d.args.length (depAt d.args))])))], [], 1⟩), (by unfold ownL; rw [if_pos c1])⟩
  ·refine SW_skip ?_
   refine ⟨_, (by kernel_rfl : gcS _ _ _ = some ⟨[(1, (strs l)), (2, (.fp (.agg [(.int .i64 d.kind), (.str d.name), (.int .i64 d.op), (.str d.evr), (.row 5 d.args.length (depAt d.args))])))], [], 1⟩), (by unfold ownL; rw [if_neg c1])⟩
 ·rintro y1 ⟨_, hg1, rfl⟩
  refine SW_gc _ _ (by omega) hg1 ?_
  refine SW_seq ?_
  refine SW_seq ?_
  refine SW_reg ?_
  refine SO_all [] [1, 2, 5] (y := ⟨[(1, (strs (ownL d l))), (2, (.fp (.agg [(.int .i64 d.kind), (.str d.name), (.int .i64 d.op), (.str d.evr), (.row 5 d.args.length (depAt d.args))]))), (5, (.int .i64 0))], [], 1⟩) (C := none) (by kernel_rfl) hold0 ?_
  refine SW_block ?_
  refine SW_loopg (fun g y => ∃ (i : Nat), i ≤ d.args.length ∧ y = ⟨[(1, (strs (argsL (d.args.take i) (ownL d l)))), (2, (.fp (.agg [(.int .i64 d.kind), (.str d.name), (.int .i64 d.op), (.str d.evr), (.row 5 d.args.length (depAt d.args))]))), (5, (.int .i64 ((i : Int))))], [], 1⟩ ∧ g = d.args.length - i) [1, 2, 5] 1 (y := ⟨[(1, (strs (ownL d l))), (2, (.fp (.agg [(.int .i64 d.kind), (.str d.name), (.int .i64 d.op), (.str d.evr), (.row 5 d.args.length (depAt d.args))]))), (5, (.int .i64 0))], [], 1⟩) _ (by omega) (by kernel_rfl) ⟨0, (by omega), (by kernel_rfl), rfl⟩ ?_
  rintro g1 y1 ⟨i, f1_1, rfl, rfl⟩
  have hb1 := argsL_len (d.args.take i) (ownL d l)
  have hb2 := argsSize_mono d.args i
  have hb4 := fun h => argsSize_take' (l := d.args) (i := i) h
  refine SW_seq ?_
  refine SW_seq ?_
  refine SW_reg ?_
  refine SO_all [] [1, 2, 5, 17] (y := ⟨[(1, (strs (argsL (d.args.take i) (ownL d l)))), (2, (.fp (.agg [(.int .i64 d.kind), (.str d.name), (.int .i64 d.op), (.str d.evr), (.row 5 d.args.length (depAt d.args))]))), (5, (.int .i64 ((i : Int)))), (17, (.bool (decide ((i : Int) < (d.args.length : Int)))))], [], 1⟩) (C := none) (by kernel_rfl) hold0 ?_
  refine SW_if (p := (i : Int) < (d.args.length : Int)) rfl (fun c2 => ?_) (fun c2 => ?_)
  ·refine SW_skip ?_
   refine SW_seq ?_
   refine SW_block ?_
   refine SW_reg ?_
   refine SO_run 3 [] [1, 2, 5, 21, 22] (y := ⟨[(1, (strs (argsL (d.args.take i) (ownL d l)))), (2, (.fp (.agg [(.int .i64 d.kind), (.str d.name), (.int .i64 d.op), (.str d.evr), (.row 5 d.args.length (depAt d.args))]))), (5, (.int .i64 ((i : Int)))), (21, (.row 5 d.args.length (depAt d.args))), (22, (.int .i64 ((i : Int))))], [], 1⟩) (C := none) (by kernel_rfl) hold0 ?_
   refine SO_conv 21 (rowOf 5 depX d.args) (by kernel_rfl) (deps_of d.args) ?_
   refine SO_run 3 [] [2, 5, 24, 25] (y := ⟨[(2, (.fp (.agg [(.int .i64 d.kind), (.str d.name), (.int .i64 d.op), (.str d.evr), (.row 5 d.args.length (depAt d.args))]))), (5, (.int .i64 ((i : Int)))), (24, (.agg [(.int .i64 ((nth d.args i).kind)), (.str ((nth d.args i).name)), (.int .i64 ((nth d.args i).op)), (.str ((nth d.args i).evr)), (.row 5 (nth d.args i).args.length (depAt (nth d.args i).args))])), (25, (strs (argsL (d.args.take i) (ownL d l))))], [], 1⟩) (C := some ((0 ≤ (i : Int) ∧ i < d.args.length))) (by kernel_rfl) (hold (by first | omega | (simp; omega) | (simp; done) | (intros; simp_all; omega) | (intros; simp_all; done))) ?_
   refine SO_call (s' := [(2, (.fp (.agg [(.int .i64 d.kind), (.str d.name), (.int .i64 d.op), (.str d.evr), (.row 5 d.args.length (depAt d.args))]))), (5, (.int .i64 ((i : Int)))), (24, (.agg [(.int .i64 ((nth d.args i).kind)), (.str ((nth d.args i).name)), (.int .i64 ((nth d.args i).op)), (.str ((nth d.args i).evr)), (.row 5 (nth d.args i).args.length (depAt (nth d.args i).args))])), (25, (strs (argsL (d.args.take i) (ownL d l)))), (26, (strs (namesL (nth d.args i) (argsL (d.args.take i) (ownL d l)))))]) (al := [(.agg [(.int .i64 ((nth d.args i).kind)), (.str ((nth d.args i).name)), (.int .i64 ((nth d.args i).op)), (.str ((nth d.args i).evr)), (.row 5 (nth d.args i).args.length (depAt (nth d.args i).args))]), (strs (argsL (d.args.take i) (ownL d l)))]) (r := (strs (namesL (nth d.args i) (argsL (d.args.take i) (ownL d l))))) rfl (by exact en_22) (by kernel_rfl) (by kernel_rfl) (ih i _ (by omega) (by have := hb4 (by omega); omega)) (by kernel_rfl) ?_
   refine SO_all [] [1, 2, 5] (y := ⟨[(1, (strs (namesL (nth d.args i) (argsL (d.args.take i) (ownL d l))))), (2, (.fp (.agg [(.int .i64 d.kind), (.str d.name), (.int .i64 d.op), (.str d.evr), (.row 5 d.args.length (depAt d.args))]))), (5, (.int .i64 ((i : Int))))], [], 1⟩) (C := none) (by kernel_rfl) hold0 ?_
   refine SW_reg ?_
   refine SO_all [] [1, 2, 5] (y := ⟨[(1, (strs (namesL (nth d.args i) (argsL (d.args.take i) (ownL d l))))), (2, (.fp (.agg [(.int .i64 d.kind), (.str d.name), (.int .i64 d.op), (.str d.evr), (.row 5 d.args.length (depAt d.args))]))), (5, (.int .i64 ((i : Int) + 1)))], [], 1⟩) (C := some ((-9223372036854775808 ≤ (i : Int) + 1 ∧ (i : Int) + 1 ≤ 9223372036854775807))) (by kernel_rfl) (hold (by first | omega | (simp; omega) | (simp; done) | (intros; simp_all; omega) | (intros; simp_all; done))) ?_
   refine ⟨_, (by kernel_rfl : gcS _ _ _ = some ⟨[(1, (strs (namesL (nth d.args i) (argsL (d.args.take i) (ownL d l))))), (2, (.fp (.agg [(.int .i64 d.kind), (.str d.name), (.int .i64 d.op), (.str d.evr), (.row 5 d.args.length (depAt d.args))]))), (5, (.int .i64 ((i : Int) + 1)))], [], 1⟩), _, ?_, i + 1, ?_, (by rw [argsL_take (by omega)]; rfl), rfl⟩
   all_goals omega
  ·refine SW_exit ?_
   refine SW_seq ?_
   refine SW_reg ?_
   refine SO_all [] [4] (y := ⟨[(4, (strs (argsL (d.args.take i) (ownL d l))))], [], 1⟩) (C := none) (by kernel_rfl) hold0 ?_
   refine SW_ret ?_
   refine retK_mk (.inl rfl) (al := [(strs (argsL (d.args.take i) (ownL d l)))]) (by kernel_rfl) (rl := [(strs (argsL (d.args.take i) (ownL d l)))]) (h' := []) (by kernel_rfl) ?_
   exact Same.of_eq (by rw [namesL_eq, List.take_of_length_le (by omega)]; rfl)
theorem refNames_any (d : DepT) : ∀ l : List (List UInt8), l.length + d.size ≤ 4611686018 → FnV Tryz.prog 22 [depX d, strs l] (strs (namesL d l)) := by
 refine dep_ind (C := fun d => ∀ l : List (List UInt8), l.length + d.size ≤ 4611686018 → FnV Tryz.prog 22 [depX d, strs l] (strs (namesL d l))) (fun d ih l hs => ?_) d
 exact refNames_step d l hs fun i l hi h => ih i hi l h
set_option maxHeartbeats 400000 in
set_option maxRecDepth 100000 in
theorem refNamesV (d : DepT) (hs : d.size ≤ 4194304) :
  FnV Tryz.prog 10 [(.agg [(.int .i64 d.kind), (.str d.name), (.int .i64 d.op), (.str d.evr), (.row 5 d.args.length (depAt d.args))])] (strs (namesL d [])) := by
 refine FnV_intro [.tmp 2] Tryz.func10 rfl Tryz.ntmps10 rfl rfl (fun B F hF => ?_)
 refine SW_seq ?_
 refine SW_reg ?_
 refine SO_run 1 [] [1] (y := ⟨[(1, (.ptr 0 0))], [(0, (.row [(.int .i64 d.kind), (.str d.name), (.int .i64 d.op), (.str d.evr), (.row 5 d.args.length (depAt d.args))] 24))], 1⟩) (C := none) (by kernel_rfl) hold0 ?_
 refine SO_still 1 (y := ⟨[(1, (.fp (.agg [(.int .i64 d.kind), (.str d.name), (.int .i64 d.op), (.str d.evr), (.row 5 d.args.length (depAt d.args))])))], [], 1⟩) (by kernel_rfl) ?_
 refine SO_all [] [1] (y := ⟨[(1, (.fp (.agg [(.int .i64 d.kind), (.str d.name), (.int .i64 d.op), (.str d.evr), (.row 5 d.args.length (depAt d.args))])))], [], 1⟩) (C := none) (by kernel_rfl) hold0 ?_
 refine SW_seq ?_
 refine SW_reg ?_
 refine SO_run 1 [] [3] (y := ⟨[(3, (.agg [(.int .i64 d.kind), (.str d.name), (.int .i64 d.op), (.str d.evr), (.row 5 d.args.length (depAt d.args))]))], [], 1⟩) (C := none) (by kernel_rfl) hold0 ?_
 refine SO_call (s' := [(3, (.agg [(.int .i64 d.kind), (.str d.name), (.int .i64 d.op), (.str d.evr), (.row 5 d.args.length (depAt d.args))])), (4, (strs (namesL d [])))]) (al := [(.agg [(.int .i64 d.kind), (.str d.name), (.int .i64 d.op), (.str d.evr), (.row 5 d.args.length (depAt d.args))]), .nils]) (r := (strs (namesL d []))) rfl (by exact en_22) (by kernel_rfl) (by kernel_rfl) ((refNames_any d [] (by simp; omega)).of_args (ImpL.cons Imp.refl (ImpL.cons Imp.nil ImpL.nil))) (by kernel_rfl) ?_
 refine SO_all [] [2] (y := ⟨[(2, (strs (namesL d [])))], [], 1⟩) (C := none) (by kernel_rfl) hold0 ?_
 refine SW_ret ?_
 refine retK_mk (.inl rfl) (al := [(strs (namesL d []))]) (by kernel_rfl) (rl := [(strs (namesL d []))]) (h' := []) (by kernel_rfl) ?_
 exact Same.of_eq (by first | rfl | (simp only [pack]; simp_all))
set_option maxHeartbeats 400000 in
set_option maxRecDepth 100000 in
theorem sameTexts_any (a b : List (List UInt8)) (hl : a.length ≤ 4611686018427387904) :
  FnV Tryz.prog 9 [(strs a), (strs b)] (.bool (decide (a = b))) := by
 refine FnV_intro [.tmp 4] Tryz.func9 rfl Tryz.ntmps9 rfl rfl (fun B F hF => ?_)
 refine SW_seq ?_
 refine SW_reg ?_
 refine SO_all [] [0, 1] (y := ⟨[(0, (strs a)), (1, (strs b))], [], 0⟩) (C := none) (by kernel_rfl) hold0 ?_
 refine SW_seq ?_
 refine SW_seq ?_
 refine SW_reg ?_
 refine SO_all [] [0, 1, 10] (y := ⟨[(0, (strs a)), (1, (strs b)), (10, (.bool (!decide ((a.length : Int) = (b.length : Int)))))], [], 0⟩) (C := none) (by kernel_rfl) hold0 ?_
 refine SW_ifn (p := (a.length : Int) = (b.length : Int)) rfl (fun c1 => ?_) (fun c1 => ?_)
 ·refine SW_seq ?_
  refine SW_reg ?_
  refine SO_all [] [4] (y := ⟨[(4, (.bool false))], [], 0⟩) (C := none) (by kernel_rfl) hold0 ?_
  refine SW_ret ?_
  refine retK_mk (.inl rfl) (al := [(.bool false)]) (by kernel_rfl) (rl := [(.bool false)]) (h' := []) (by kernel_rfl) ?_
  refine Same.of_eq ?_
  rw [decide_eq_false (by rintro rfl; exact c1 rfl)]; rfl
 ·refine SW_skip ?_
  refine SW_seq ?_
  refine SW_seq ?_
  refine SW_reg ?_
  refine SO_all [] [0, 1, 5] (y := ⟨[(0, (strs a)), (1, (strs b)), (5, (.int .i64 0))], [], 0⟩) (C := none) (by kernel_rfl) hold0 ?_
  refine SW_block ?_
  refine SW_loopg (fun g y => ∃ (i : Nat), i ≤ a.length ∧ a.take i = b.take i ∧ y = ⟨[(0, (strs a)), (1, (strs b)), (5, (.int .i64 ((i : Int))))], [], 0⟩ ∧ g = a.length - i) [0, 1, 5] 0 (y := ⟨[(0, (strs a)), (1, (strs b)), (5, (.int .i64 0))], [], 0⟩) _ (by omega) (by kernel_rfl) ⟨0, (by omega), (by rfl), (by kernel_rfl), rfl⟩ ?_
  rintro g1 y1 ⟨i, f1_1, f1_2, rfl, rfl⟩
  refine SW_seq ?_
  refine SW_seq ?_
  refine SW_reg ?_
  refine SO_all [] [0, 1, 5, 14] (y := ⟨[(0, (strs a)), (1, (strs b)), (5, (.int .i64 ((i : Int)))), (14, (.bool (decide ((i : Int) < (a.length : Int)))))], [], 0⟩) (C := none) (by kernel_rfl) hold0 ?_
  refine SW_if (p := (i : Int) < (a.length : Int)) rfl (fun c2 => ?_) (fun c2 => ?_)
  ·refine SW_skip ?_
   refine SW_seq ?_
   refine SW_block ?_
   refine SW_seq ?_
   refine SW_draw (by kernel_rfl) (fun F1 hF1 => ?_)
   refine SG_frees (lz := []) [0, 1, 2, 3, 4, 5, 6, 7, 8] [0, 1, 5, 25] (fuel := 0) (L := #[true, true, true, true, true, true, true, true, true]) (y := ⟨[(0, (strs a)), (1, (strs b)), (5, (.int .i64 ((i : Int)))), (25, (.bool (!decide (nth a i = nth b i))))], [], 0⟩) (C := some ((0 ≤ (i : Int) ∧ i < a.length) ∧ (0 ≤ (i : Int) ∧ i < b.length))) (by kernel_rfl) (by kernel_rfl) (by kernel_rfl) (hold (by first | omega | (simp; omega) | (simp; done) | (intros; simp_all; omega) | (intros; simp_all; done))) ?_
   refine SG_sel [0, 1, 5, 25] (s := [(0, (strs a)), (1, (strs b)), (5, (.int .i64 ((i : Int)))), (25, (.bool (!decide (nth a i = nth b i))))]) (by kernel_rfl) ?_
   refine SG_done (by kernel_rfl) ?_
   refine SW_ifn (p := nth a i = nth b i) rfl (fun c3 => ?_) (fun c3 => ?_)
   ·refine SW_seq ?_
    refine SW_reg ?_
    refine SO_all [] [4] (y := ⟨[(4, (.bool false))], [], 0⟩) (C := none) (by kernel_rfl) hold0 ?_
    refine SW_ret ?_
    refine retK_mk (.inl rfl) (al := [(.bool false)]) (by kernel_rfl) (rl := [(.bool false)]) (h' := []) (by kernel_rfl) ?_
    refine Same.of_eq ?_
    rw [decide_eq_false (by rintro rfl; exact c3 rfl)]; rfl
   ·refine SW_skip ?_
    refine SW_reg ?_
    refine SO_all [] [0, 1, 5] (y := ⟨[(0, (strs a)), (1, (strs b)), (5, (.int .i64 ((i : Int) + 1)))], [], 0⟩) (C := some ((-9223372036854775808 ≤ (i : Int) + 1 ∧ (i : Int) + 1 ≤ 9223372036854775807))) (by kernel_rfl) (hold (by first | omega | (simp; omega) | (simp; done) | (intros; simp_all; omega) | (intros; simp_all; done))) ?_
    refine ⟨_, (by kernel_rfl : gcS _ _ _ = some ⟨[(0, (strs a)), (1, (strs b)), (5, (.int .i64 ((i : Int) + 1)))], [], 0⟩), _, ?_, i + 1, ?_, ?_, (by kernel_rfl), rfl⟩
    ·omega
    ·omega
    ·rw [take_next (by omega), take_next (by omega), f1_2, show nth a i = nth b i by assumption]
  ·refine SW_exit ?_
   refine SW_seq ?_
   refine SW_reg ?_
   refine SO_all [] [4] (y := ⟨[(4, (.bool true))], [], 0⟩) (C := none) (by kernel_rfl) hold0 ?_
   refine SW_ret ?_
   refine retK_mk (.inl rfl) (al := [(.bool true)]) (by kernel_rfl) (rl := [(.bool true)]) (h' := []) (by kernel_rfl) ?_
   refine Same.of_eq ?_
   rw [decide_eq_true (by have h1 := f1_2; rw [List.take_of_length_le (by omega), List.take_of_length_le (by omega)] at h1; exact h1)]; rfl
end Sv
end Go.Proofs.YtaegacblpbbndaaGreatDoor
end
section
namespace Go.Proofs.YtaegacblpbbndaaGreatDoor
open Go Go.RowKit
set_option linter.unusedSimpArgs false
set_option linter.unusedVariables false
namespace Sv
theorem strs_vals {φ : Phi} : ∀ {l : List (List UInt8)} {vs : List Value}, VRl φ (l.map AV.str) vs → vs = l.map encStr
  | [], vs, h => h.nil_inv
  | x :: l, vs, h => by
    obtain ⟨v, vs', rfl, h1, h2⟩ := h.cons_inv
    simp only [VR] at h1
    rw [strs_vals h2, h1]; rfl
theorem vals_strs {φ : Phi} : ∀ l : List (List UInt8), VRl φ (l.map AV.str) (l.map encStr)
  | [] => .nil
  | x :: l => .cons (by simp only [VR]) (vals_strs l)
theorem flat_strs (l : List (List UInt8)) : (l.map encStr).flatMap (fun u => u.cells.toList) = l.map encStr := by
  induction l with
  | nil => rfl
  | cons x l ih => rw [List.map_cons, List.flatMap_cons, ih]; first | done | rfl
theorem cells_strs (l : List (List UInt8)) : ∀ u ∈ l.map encStr, u.cells.size = 1 ∧ ∀ c ∈ u.cells.toList, c.oneCell' = true := by
  intro u hu
  obtain ⟨x, _, rfl⟩ := List.mem_map.1 hu
  exact ⟨rfl, fun c hc => by simp [encStr, Value.cells] at hc; subst hc; rfl⟩
theorem Rel.rebase {B : Bas} {φ : Phi} {h : AH} {w : World} (r : Rel B φ h w) : Rel (basH φ h w) φ h w :=
  ⟨⟨rfl, rfl, rfl, Nat.le_refl _, fun _ _ => rfl⟩, r.fro, fun b o e => by have := r.obj b o e; cases o <;> exact this, r.sep, fun b o k e i => ⟨fun q => q.2 b o e i, (r.gf b o k e i).2⟩⟩
theorem compact_le (zs : List (List UInt8)) : (Lib.compact zs).length ≤ zs.length := by
  have : ∀ m, (Lib.compactUpTo zs.toArray m).length ≤ m := by
    intro m
    induction m with
    | zero => simp [Lib.compactUpTo]
    | succ m ih =>
      rw [Lib.compactUpTo_succ, List.length_append]
      split <;> simp <;> omega
  exact this _
theorem sort_any (l : List (List UInt8)) (hl : l.length ≤ 4611686018427) :
    CallS Tryz.prog 20 [.own 1] [(0, .row [.own 1] 30), (1, .grow (l.map AV.str) 9 1)] 2 (.tup []) [(0, .row [.own 1] 30), (1, .grow ((l.mergeSort fun x y => decide (x ≤ y)).map AV.str) 9 1)] := by
  intro B0 φ w vs r hv
  obtain ⟨v, rfl, hv1⟩ := hv.single_inv
  simp only [VR] at hv1
  obtain ⟨v0, us, q1, q2, q3, q4⟩ := r.obj 1 _ rfl
  rw [hv1.1] at q1; cases q1
  have hu := strs_vals q3
  subst hu
  rw [flat_strs, List.length_map] at q2
  have hr := r.rebase
  rcases q2.2 with ⟨rfl, hn⟩ | ⟨g, cap, cur, rfl, hg1, hg2, hg3, hg4, hg5, hg6⟩
  · have hl0 : l = [] := List.length_eq_zero_iff.1 hn
    subst hl0
    refine (Tryz.slices_Sort_string_none none 0 w).mono ?_
    rintro e w' ⟨he, rfl⟩
    exact ⟨_, he, φ, by simpa using hr, by simp only [VR]; exact ⟨[], .nil, rfl⟩, fun _ _ _ e => e, fun _ _ e => e, fun _ _ e => .inl e⟩
  · have hh : Go.Sort.Holds encStr w g 0 l.toArray := holds_of_block hg2 (by simpa using hg6)
    refine (Tryz.slices_Sort_string g 0 cap l w hh (block_lt hg2) (by omega)).mono ?_
    rintro e w' ⟨he, n, os, rfl⟩
    refine ⟨_, he, φ, ?_, by simp only [VR]; exact ⟨[], .nil, rfl⟩, fun _ _ _ e => e, fun _ _ e => e, fun _ _ e => .inl e⟩
    have hgr := grownBy_sorted (w := w) (g := g) (n := n) (os := os) (l.mergeSort fun x y => decide (x ≤ y)).toArray
    have ht : Turn φ φ 1 := ⟨fun _ => rfl, fun _ _ => rfl, fun _ _ e => e⟩
    have r1 := Rel.grown (es' := (l.mergeSort fun x y => decide (x ≤ y)).map AV.str) hr (b := 1) rfl hv1.1 ht hv1.1 rfl hgr (.inl rfl) (fun k hk => by cases hk; exact Nat.lt_of_lt_of_le (block_lt hg2) hgr.size)
      ⟨_, (l.mergeSort fun x y => decide (x ≤ y)).map encStr, hv1.1, by
        rw [flat_strs, List.length_map]
        have := ownsRow_sorted (n := n) (os := os) (base := 0) (ts := l.mergeSort fun x y => decide (x ≤ y)) (ss := l) (by simp) hg1 hg2 hg3 hg4 (by simpa using hg5)
        rw [List.length_mergeSort] at *
        exact this, vals_strs _, cells_strs _⟩
    obtain ⟨x, κ, ws, a1, a2, a3⟩ := hr.obj 0 _ rfl
    have hne : x ≠ g := by
      rintro rfl
      have := hr.sep 0 1 _ _ x rfl rfl (by simp only [img, a1]; rfl) (by simp only [img, hv1.1]; rfl)
      cases this
    have hgx := hr.gf 0 _ x rfl (by simp only [img, a1]; rfl)
    have r2 := r1.add (b := 0) (o := .row [.own 1] 30) ⟨x, κ, ws, a1, (hgr.block x (block_lt a2) (fun q => hne (by cases q; rfl))).trans a2, a3⟩ (fun k hk => by
      have hk' : x = k := by simpa only [img, a1, Option.map_some, Option.some.injEq] using hk
      subst hk'
      refine ⟨hgx.1, Nat.lt_of_lt_of_le hgx.2.1 hgr.size, hgx.2.2, fun c o' hc hg hi => hc ?_⟩
      refine r1.sep c 0 o' (.row [junk] 30) x hg ?_ hi (by simp only [img, a1]; rfl)
      kernel_rfl)
    exact r2
theorem compact_any (l : List (List UInt8)) (hl : l.length ≤ 4611686018427) :
    CallS Tryz.prog 21 [.own 0] [(0, .grow (l.map AV.str) 9 1)] 1 (.own 0) [(0, .grow ((Lib.compact l).map AV.str) 9 1)] := by
  intro B0 φ w vs r hv
  obtain ⟨v, rfl, hv1⟩ := hv.single_inv
  simp only [VR] at hv1
  obtain ⟨v0, us, q1, q2, q3, q4⟩ := r.obj 0 _ rfl
  rw [hv1.1] at q1; cases q1
  have hu := strs_vals q3
  subst hu
  rw [flat_strs, List.length_map] at q2
  have hr := r.rebase
  rcases q2.2 with ⟨rfl, hn⟩ | ⟨g, cap, cur, rfl, hg1, hg2, hg3, hg4, hg5, hg6⟩
  · have hl0 : l = [] := List.length_eq_zero_iff.1 hn
    subst hl0
    refine (Tryz.slices_Compact_string_empty none 0 w).mono ?_
    rintro e w' ⟨he, rfl⟩
    exact ⟨_, he, φ, hr, by simp only [VR]; exact hv1, fun _ _ _ e => e, fun _ _ e => e, fun _ _ e => .inl e⟩
  · have hh : Go.Sort.Holds encStr w g 0 l.toArray := holds_of_block hg2 (by simpa using hg6)
    refine (Tryz.slices_Compact_string g 0 cap l w hh (by omega) hg3).mono ?_
    rintro e w' ⟨he, n, rfl⟩
    have hgr := grownBy_sorted (w := w) (g := g) (n := n) (os := #[]) (Lib.compact l ++ List.replicate (l.length - (Lib.compact l).length) []).toArray
    rw [Go.Sort.grow_empty] at hgr
    have hle := compact_le l
    have hts : (Lib.compact l ++ List.replicate (l.length - (Lib.compact l).length) ([] : List UInt8)).length = l.length := by simp; omega
    have ho := ownsRow_sorted (n := n) (os := #[]) (base := 0) (ts := Lib.compact l ++ List.replicate (l.length - (Lib.compact l).length) []) (ss := l) hts hg1 hg2 hg3 hg4 (by simpa using hg5)
    rw [Go.Sort.grow_empty] at ho
    refine ⟨_, he, ⟨φ.m, fun i => if i = 0 then some (.slice (some ⟨g, 0, none⟩) (Lib.compact l).length cap) else φ.s i, φ.f⟩, ?_, by simp only [VR]; exact ⟨rfl, _, _, _, rfl⟩, fun _ _ _ e => e, fun _ _ e => e, fun _ _ e => .inl e⟩
    have ht : Turn φ ⟨φ.m, fun i => if i = 0 then some (.slice (some ⟨g, 0, none⟩) (Lib.compact l).length cap) else φ.s i, φ.f⟩ 0 := ⟨fun _ => rfl, fun c hc => if_neg hc, fun _ _ e => e⟩
    refine Rel.grown (v' := .slice (some ⟨g, 0, none⟩) (Lib.compact l).length cap) (es' := (Lib.compact l).map AV.str) hr (b := 0) rfl hv1.1 ht rfl rfl hgr (.inl rfl) (fun k hk => by cases hk; exact Nat.lt_of_lt_of_le (block_lt hg2) hgr.size) ⟨_, (Lib.compact l).map encStr, rfl, ?_, vals_strs _, cells_strs _⟩
    rw [flat_strs, List.length_map]
    refine ⟨by simp, .inr ⟨g, cap, Go.Sort.putCells encStr 0 (Lib.compact l ++ List.replicate (l.length - (Lib.compact l).length) []).toArray cur, rfl, hg1, ?_, by omega, hg4, by simp [Go.Sort.putCells, hg5], ?_⟩⟩
    · have := heap_sorted (w := w) (g := g) (n := n) (os := #[]) (Lib.compact l ++ List.replicate (l.length - (Lib.compact l).length) []).toArray hg2
      rw [Go.Sort.grow_empty] at this; exact this
    · have := take_putCells cur (Lib.compact l ++ List.replicate (l.length - (Lib.compact l).length) []) (by rw [hts, hg5]; omega)
      have := congrArg (List.take (Lib.compact l).length) this
      rw [List.take_take, Nat.min_eq_left (by rw [hts]; exact hle), List.map_append, List.take_append_of_le_length (by simp), List.take_of_length_le (l := (Lib.compact l).map encStr) (by simp)] at this
      rw [Nat.mul_one]; exact this
end Sv
end Go.Proofs.YtaegacblpbbndaaGreatDoor
end
section
namespace Go.Proofs.YtaegacblpbbndaaGreatDoor
open Go Go.RowKit
namespace Sv
attribute [local irreducible] SW SO
theorem en_19 : Enters Tryz.prog 19 := enters_of Tryz.func19 (by kernel_rfl) rfl
theorem en_18 : Enters Tryz.prog 18 := enters_of Tryz.func18 (by kernel_rfl) rfl
theorem en_8 : Enters Tryz.prog 8 := enters_of Tryz.func8 (by kernel_rfl) rfl
theorem en_20 : Enters Tryz.prog 20 := enters_of Tryz.func20 (by kernel_rfl) rfl
theorem en_21 : Enters Tryz.prog 21 := enters_of Tryz.func21 (by kernel_rfl) rfl
mutual
def allN : DepT → List (List UInt8)
 | .mk k nm _ _ args => (if k = 1 then [nm] else []) ++ allA args
def allA : List DepT → List (List UInt8)
 | [] => []
 | d :: r => allN d ++ allA r
end
def ownN (d : DepT) : List (List UInt8) := if d.kind = 1 then [d.name] else []
theorem allN_eq (d : DepT) : allN d = ownN d ++ allA d.args := by cases d; unfold allN; rfl
theorem allA_snoc : ∀ (r : List DepT) (d : DepT), allA (r ++ [d]) = allA r ++ allN d
 | [], d => by simp [allA]
 | x :: r, d => by simp only [List.cons_append, allA, allA_snoc r d, List.append_assoc]
theorem allA_take {r : List DepT} {i : Nat} (h : i < r.length) : allA (r.take (i + 1)) = allA (r.take i) ++ allN (nth r i) := by rw [take_next h, allA_snoc]
theorem ownN_len (d : DepT) : (ownN d).length ≤ 1 := by unfold ownN; split <;> simp
mutual
theorem allN_len : ∀ d : DepT, (allN d).length ≤ d.size
 | .mk k nm op ev args => by
  have h1 := allA_len args
  have h2 : (if k = 1 then [nm] else []).length ≤ 1 := by split <;> simp
  unfold allN
  simp only [DepT.size, List.length_append]; omega
theorem allA_len : ∀ r : List DepT, (allA r).length ≤ argsSize r
 | [] => by simp [allA]
 | d :: r => by
  have h1 := allN_len d
  have h2 := allA_len r
  simp only [allA, argsSize, List.length_append]; omega
end
set_option maxHeartbeats 400000 in
set_option maxRecDepth 100000 in
theorem take_names (s : List UInt8) (es : List AV) (hs : es.length ≤ 4611686018) :
  CallS Tryz.prog 19 [(.str s), (.ptr 0 0)] [(0, (.row [(.own 1)] 30)), (1, (.grow es 9 1))] 2 (.tup []) [(0, (.row [(.own 1)] 30)), (1, (.grow (es ++ [AV.str s]) 9 1))] := by
 refine CallS_intro [] Tryz.func19 rfl Tryz.ntmps19 rfl rfl (by kernel_rfl) (by kernel_rfl) (by kernel_rfl) (fun B F hF => ?_)
 refine SW_reg ?_
 refine SO_all [] [] (y := ⟨[], [(0, (.row [(.own 1)] 30)), (1, (.grow (es ++ ([(.str s)] : List AV)) 9 1)), (2, (.row [(.str s)] 9))], 3⟩) (C := some (((es.length + 1) * 16 ≤ 140737488355328))) (by kernel_rfl) (hold (by first | omega | (simp; omega) | (simp; done) | (intros; simp_all; omega) | (intros; simp_all; done))) ?_
 refine retS_mk (.inr rfl) (al := []) (by kernel_rfl) ?_ ((by kernel_rfl : cutH 2 _ = some [(0, (.row [(.own 1)] 30)), (1, (.grow (es ++ ([(.str s)] : List AV)) 9 1))]).trans ?_)
 ·rfl
 ·rfl
set_option maxHeartbeats 400000 in
set_option maxRecDepth 100000 in
theorem all_step2 (d : DepT) (es : List AV) (hs : es.length + d.size ≤ 4611686018) (ih : ∀ i es, i < d.args.length → es.length + (nth d.args i).size ≤ 4611686018 → CallS Tryz.prog 18 [depX (nth d.args i), .fn 19 [] [.ptr 0 0]] [(0, .row [.own 1] 30), (1, .grow es 9 1)] 2 (.tup []) [(0, .row [.own 1] 30), (1, .grow (es ++ (allN (nth d.args i)).map AV.str) 9 1)]) :
  CallS Tryz.prog 18 [(.agg [(.int .i64 d.kind), (.str d.name), (.int .i64 d.op), (.str d.evr), (.row 5 d.args.length (depAt d.args))]), (.fn 19 [] [(.ptr 0 0)])] [(0, (.row [(.own 1)] 30)), (1, (.grow es 9 1))] 2 (.tup []) [(0, (.row [(.own 1)] 30)), (1, (.grow (es ++ (allN d).map AV.str) 9 1))] := by
 have hz := size_parts d
 have hal := args_le d.args
 have ho := ownN_len d
 refine CallS_intro [] Tryz.func18 rfl Tryz.ntmps18 rfl rfl (by kernel_rfl) (by kernel_rfl) (by kernel_rfl) (fun B F hF => ?_)
 refine SW_seq ?_
 refine SW_reg ?_
 refine SO_all [] [1, 2] (y := ⟨[(1, (.fn 19 [] [(.ptr 0 0)])), (2, (.ptr 2 0))], [(0, (.row [(.own 1)] 30)), (1, (.grow es 9 1)), (2, (.row [(.int .i64 d.kind), (.str d.name), (.int .i64 d.op), (.str d.evr), (.row 5 d.args.length (depAt d.args))] 24))], 3⟩) (C := none) (by kernel_rfl) hold0 ?_
 refine SW_still 2 (y := ⟨[(1, (.fn 19 [] [(.ptr 0 0)])), (2, (.fp (.agg [(.int .i64 d.kind), (.str d.name), (.int .i64 d.op), (.str d.evr), (.row 5 d.args.length (depAt d.args))])))], [(0, (.row [(.own 1)] 30)), (1, (.grow es 9 1))], 3⟩) (by kernel_rfl) ?_
 refine SW_cut (fun y => ∃ y', gcS [1, 2] 3 y = some y' ∧ y' = ⟨[(1, (.fn 19 [] [(.ptr 0 0)])), (2, (.fp (.agg [(.int .i64 d.kind), (.str d.name), (.int .i64 d.op), (.str d.evr), (.row 5 d.args.length (depAt d.args))])))], [(0, (.row [(.own 1)] 30)), (1, (.grow (es ++ (ownN d).map AV.str) 9 1))], 3⟩) ?_ ?_
 ·refine SW_seq ?_
  refine SW_reg ?_
  refine SO_all [] [1, 2, 8] (y := ⟨[(1, (.fn 19 [] [(.ptr 0 0)])), (2, (.fp (.agg [(.int .i64 d.kind), (.str d.name), (.int .i64 d.op), (.str d.evr), (.row 5 d.args.length (depAt d.args))]))), (8, (.bool (decide (d.kind = 1))))], [(0, (.row [(.own 1)] 30)), (1, (.grow es 9 1))], 3⟩) (C := none) (by kernel_rfl) hold0 ?_
  refine SW_if (p := d.kind = 1) rfl (fun c1 => ?_) (fun c1 => ?_)
  ·refine SW_reg ?_
   refine SO_run 3 [] [1, 2, 9, 11] (y := ⟨[(1, (.fn 19 [] [(.ptr 0 0)])), (2, (.fp (.agg [(.int .i64 d.kind), (.str d.name), (.int .i64 d.op), (.str d.evr), (.row 5 d.args.length (depAt d.args))]))), (9, (.fn 19 [] [(.ptr 0 0)])), (11, (.str d.name))], [(0, (.row [(.own 1)] 30)), (1, (.grow es 9 1))], 3⟩) (C := none) (by kernel_rfl) hold0 ?_
   refine SO_callSv [0, 1] (al := [(.str d.name)]) (al' := [(.str d.name), (.ptr 0 0)]) (r := (.tup [])) (r' := (.tup [])) (s' := [(1, (.fn 19 [] [(.ptr 0 0)])), (2, (.fp (.agg [(.int .i64 d.kind), (.str d.name), (.int .i64 d.op), (.str d.evr), (.row 5 d.args.length (depAt d.args))]))), (9, (.fn 19 [] [(.ptr 0 0)])), (11, (.str d.name)), (12, (.tup []))]) (H := [(0, (.row [(.own 1)] 30)), (1, (.grow es 9 1))]) (H' := [(0, (.row [(.own 1)] 30)), (1, (.grow (es ++ [AV.str d.name]) 9 1))]) (h2 := [(0, (.row [(.own 1)] 30)), (1, (.grow (es ++ [AV.str d.name]) 9 1))]) rfl rfl (by exact en_19) (by kernel_rfl) (by kernel_rfl) (by kernel_rfl) (by kernel_rfl) (by kernel_rfl) (take_names d.name es (by omega)) (by kernel_rfl) (by kernel_rfl) (by kernel_rfl) ?_
   refine SO_nil ?_
   refine ⟨_, (by kernel_rfl : gcS _ _ _ = some ⟨[(1, (.fn 19 [] [(.ptr 0 0)])), (2, (.fp (.agg [(.int .i64 d.kind), (.str d.name), (.int .i64 d.op), (.str d.evr), (.row 5 d.args.length (depAt d.args))])))], [(0, (.row [(.own 1)] 30)), (1, (.grow (es ++ [AV.str d.name]) 9 1))], 3⟩), (by unfold ownN; rw [if_pos c1]; rfl)⟩
  ·refine SW_skip ?_
   refine ⟨_, (by kernel_rfl : gcS _ _ _ = some ⟨[(1, (.fn 19 [] [(.ptr 0 0)])), (2, (.fp (.agg [(.int .i64 d.kind), (.str d.name), (.int .i64 d.op), (.str d.evr), (.row 5 d.args.length (depAt d.args))])))], [(0, (.row [(.own 1)] 30)), (1, (.grow es 9 1))], 3⟩), (by unfold ownN; rw [if_neg c1]; simp)⟩
 ·rintro y1 ⟨_, hg1, rfl⟩
  refine SW_gc _ _ (by omega) hg1 ?_
  refine SW_seq ?_
  refine SW_reg ?_
  refine SO_all [] [1, 14, 15, 16] (y := ⟨[(1, (.fn 19 [] [(.ptr 0 0)])), (14, (.row 5 d.args.length (depAt d.args))), (15, (.int .i64 ((d.args.length : Int)))), (16, (.int .i64 0))], [(0, (.row [(.own 1)] 30)), (1, (.grow (es ++ (ownN d).map AV.str) 9 1))], 3⟩) (C := none) (by kernel_rfl) hold0 ?_
  refine SW_block ?_
  refine SW_conv 14 (rowOf 5 depX d.args) (by kernel_rfl) (deps_of d.args) ?_
  refine SW_loopg (fun g y => ∃ (i : Nat), i ≤ d.args.length ∧ y = ⟨[(1, (.fn 19 [] [(.ptr 0 0)])), (14, (rowOf 5 depX d.args)), (15, (.int .i64 ((d.args.length : Int)))), (16, (.int .i64 ((i : Int))))], [(0, (.row [(.own 1)] 30)), (1, (.grow (es ++ (ownN d ++ allA (d.args.take i)).map AV.str) 9 1))], 3⟩ ∧ g = d.args.length - i) [1, 14, 15, 16] 3 (y := ⟨[(1, (.fn 19 [] [(.ptr 0 0)])), (14, (rowOf 5 depX d.args)), (15, (.int .i64 ((d.args.length : Int)))), (16, (.int .i64 0))], [(0, (.row [(.own 1)] 30)), (1, (.grow (es ++ (ownN d).map AV.str) 9 1))], 3⟩) _ (by omega) (by kernel_rfl) ⟨0, (by omega), (by simp only [List.take_zero, allA, List.append_nil]; rfl), rfl⟩ ?_
  rintro g1 y1 ⟨i, f1_1, rfl, rfl⟩
  have hb1 := allA_len (d.args.take i)
  have hb2 := argsSize_mono d.args i
  have hb4 := fun h => argsSize_take' (l := d.args) (i := i) h
  refine SW_seq ?_
  refine SW_reg ?_
  refine SO_all [] [1, 14, 15, 16, 17] (y := ⟨[(1, (.fn 19 [] [(.ptr 0 0)])), (14, (rowOf 5 depX d.args)), (15, (.int .i64 ((d.args.length : Int)))), (16, (.int .i64 ((i : Int)))), (17, (.bool (decide ((i : Int) < (d.args.length : Int)))))], [(0, (.row [(.own 1)] 30)), (1, (.grow (es ++ (ownN d ++ allA (d.args.take i)).map AV.str) 9 1))], 3⟩) (C := none) (by kernel_rfl) hold0 ?_
  refine SW_seq ?_
  refine SW_if (p := (i : Int) < (d.args.length : Int)) rfl (fun c2 => ?_) (fun c2 => ?_)
  ·refine SW_skip ?_
   refine SW_seq ?_
   refine SW_block ?_
   refine SW_seq ?_
   refine SW_reg ?_
   refine SO_all [] [1, 5, 14, 15, 16] (y := ⟨[(1, (.fn 19 [] [(.ptr 0 0)])), (5, (.ptr 3 0)), (14, (rowOf 5 depX d.args)), (15, (.int .i64 ((d.args.length : Int)))), (16, (.int .i64 ((i : Int))))], [(0, (.row [(.own 1)] 30)), (1, (.grow (es ++ (ownN d ++ allA (d.args.take i)).map AV.str) 9 1)), (3, (.row [(.int .i64 ((nth d.args i).kind)), (.str ((nth d.args i).name)), (.int .i64 ((nth d.args i).op)), (.str ((nth d.args i).evr)), (.row 5 (nth d.args i).args.length (depAt (nth d.args i).args))] 24))], 4⟩) (C := some ((0 ≤ (i : Int) ∧ i < d.args.length))) (by kernel_rfl) (hold (by first | omega | (simp; omega) | (simp; done) | (intros; simp_all; omega) | (intros; simp_all; done))) ?_
   refine SW_reg ?_
   refine SO_still 5 (y := ⟨[(1, (.fn 19 [] [(.ptr 0 0)])), (5, (.fp (.agg [(.int .i64 ((nth d.args i).kind)), (.str ((nth d.args i).name)), (.int .i64 ((nth d.args i).op)), (.str ((nth d.args i).evr)), (.row 5 (nth d.args i).args.length (depAt (nth d.args i).args))]))), (14, (rowOf 5 depX d.args)), (15, (.int .i64 ((d.args.length : Int)))), (16, (.int .i64 ((i : Int))))], [(0, (.row [(.own 1)] 30)), (1, (.grow (es ++ (ownN d ++ allA (d.args.take i)).map AV.str) 9 1))], 4⟩) (by kernel_rfl) ?_
   refine SO_run 2 [] [1, 14, 15, 16, 20, 21] (y := ⟨[(1, (.fn 19 [] [(.ptr 0 0)])), (14, (rowOf 5 depX d.args)), (15, (.int .i64 ((d.args.length : Int)))), (16, (.int .i64 ((i : Int)))), (20, (.agg [(.int .i64 ((nth d.args i).kind)), (.str ((nth d.args i).name)), (.int .i64 ((nth d.args i).op)), (.str ((nth d.args i).evr)), (.row 5 (nth d.args i).args.length (depAt (nth d.args i).args))])), (21, (.fn 19 [] [(.ptr 0 0)]))], [(0, (.row [(.own 1)] 30)), (1, (.grow (es ++ (ownN d ++ allA (d.args.take i)).map AV.str) 9 1))], 4⟩) (C := none) (by kernel_rfl) hold0 ?_
   refine SO_callS [0, 1] (al := [(.agg [(.int .i64 ((nth d.args i).kind)), (.str ((nth d.args i).name)), (.int .i64 ((nth d.args i).op)), (.str ((nth d.args i).evr)), (.row 5 (nth d.args i).args.length (depAt (nth d.args i).args))]), (.fn 19 [] [(.ptr 0 0)])]) (al' := [(.agg [(.int .i64 ((nth d.args i).kind)), (.str ((nth d.args i).name)), (.int .i64 ((nth d.args i).op)), (.str ((nth d.args i).evr)), (.row 5 (nth d.args i).args.length (depAt (nth d.args i).args))]), (.fn 19 [] [(.ptr 0 0)])]) (r := (.tup [])) (r' := (.tup [])) (s' := [(1, (.fn 19 [] [(.ptr 0 0)])), (14, (rowOf 5 depX d.args)), (15, (.int .i64 ((d.args.length : Int)))), (16, (.int .i64 ((i : Int)))), (20, (.agg [(.int .i64 ((nth d.args i).kind)), (.str ((nth d.args i).name)), (.int .i64 ((nth d.args i).op)), (.str ((nth d.args i).evr)), (.row 5 (nth d.args i).args.length (depAt (nth d.args i).args))])), (21, (.fn 19 [] [(.ptr 0 0)])), (22, (.tup []))]) (H := [(0, (.row [(.own 1)] 30)), (1, (.grow (es ++ (ownN d ++ allA (d.args.take i)).map AV.str) 9 1))]) (H' := [(0, (.row [(.own 1)] 30)), (1, (.grow ((es ++ (ownN d ++ allA (d.args.take i)).map AV.str) ++ (allN (nth d.args i)).map AV.str) 9 1))]) (h2 := [(0, (.row [(.own 1)] 30)), (1, (.grow ((es ++ (ownN d ++ allA (d.args.take i)).map AV.str) ++ (allN (nth d.args i)).map AV.str) 9 1))]) rfl (by exact en_18) (by kernel_rfl) (by kernel_rfl) (by kernel_rfl) (by kernel_rfl) (by kernel_rfl) (ih i (es ++ (ownN d ++ allA (d.args.take i)).map AV.str) (by omega) (by have := hb4 (by omega); simp only [List.length_append, List.length_map]; omega)) (by kernel_rfl) (by kernel_rfl) (by kernel_rfl) ?_
   refine SO_nil ?_
   refine SW_reg ?_
   refine SO_all [] [1, 14, 15, 16] (y := ⟨[(1, (.fn 19 [] [(.ptr 0 0)])), (14, (rowOf 5 depX d.args)), (15, (.int .i64 ((d.args.length : Int)))), (16, (.int .i64 ((i : Int) + 1)))], [(0, (.row [(.own 1)] 30)), (1, (.grow ((es ++ (ownN d ++ allA (d.args.take i)).map AV.str) ++ (allN (nth d.args i)).map AV.str) 9 1))], 4⟩) (C := some ((-9223372036854775808 ≤ (i : Int) + 1 ∧ (i : Int) + 1 ≤ 9223372036854775807))) (by kernel_rfl) (hold (by first | omega | (simp; omega) | (simp; done) | (intros; simp_all; omega) | (intros; simp_all; done))) ?_
   refine ⟨_, (by kernel_rfl : gcS _ _ _ = some ⟨[(1, (.fn 19 [] [(.ptr 0 0)])), (14, (rowOf 5 depX d.args)), (15, (.int .i64 ((d.args.length : Int)))), (16, (.int .i64 ((i : Int) + 1)))], [(0, (.row [(.own 1)] 30)), (1, (.grow ((es ++ (ownN d ++ allA (d.args.take i)).map AV.str) ++ (allN (nth d.args i)).map AV.str) 9 1))], 3⟩), _, ?_, i + 1, ?_, (by rw [allA_take (by omega)]; simp only [List.map_append, List.append_assoc]; rfl), rfl⟩
   all_goals omega
  ·refine SW_exit ?_
   refine retS_mk (.inr rfl) (al := []) (by kernel_rfl) ?_ ((by kernel_rfl : cutH 2 _ = some [(0, (.row [(.own 1)] 30)), (1, (.grow (es ++ (ownN d ++ allA (d.args.take i)).map AV.str) 9 1))]).trans ?_)
   ·rfl
   ·rw [allN_eq, List.take_of_length_le (by omega)]
theorem all_names (d : DepT) : ∀ es : List AV, es.length + d.size ≤ 4611686018 → CallS Tryz.prog 18 [depX d, .fn 19 [] [.ptr 0 0]] [(0, .row [.own 1] 30), (1, .grow es 9 1)] 2 (.tup []) [(0, .row [.own 1] 30), (1, .grow (es ++ (allN d).map AV.str) 9 1)] := by
 refine dep_ind (C := fun d => ∀ es : List AV, es.length + d.size ≤ 4611686018 → CallS Tryz.prog 18 [depX d, .fn 19 [] [.ptr 0 0]] [(0, .row [.own 1] 30), (1, .grow es 9 1)] 2 (.tup []) [(0, .row [.own 1] 30), (1, .grow (es ++ (allN d).map AV.str) 9 1)]) (fun d ih es hs => ?_) d
 exact all_step2 d es hs fun i es hi h => ih i hi es h
def namesF (d : DepT) : List (List UInt8) := Lib.compact ((allN d).mergeSort fun x y => decide (x ≤ y))
set_option maxHeartbeats 400000 in
set_option maxRecDepth 100000 in
theorem NamesV (d : DepT) (hs : d.size ≤ 4194304) :
  FnV Tryz.prog 8 [(.agg [(.int .i64 d.kind), (.str d.name), (.int .i64 d.op), (.str d.evr), (.row 5 d.args.length (depAt d.args))])] (strs (namesF d)) := by
 refine FnV_intro [.tmp 2] Tryz.func8 rfl Tryz.ntmps8 rfl rfl (fun B F hF => ?_)
 refine SW_seq ?_
 refine SW_reg ?_
 refine SO_run 1 [] [1] (y := ⟨[(1, (.ptr 0 0))], [(0, (.row [(.int .i64 d.kind), (.str d.name), (.int .i64 d.op), (.str d.evr), (.row 5 d.args.length (depAt d.args))] 24))], 1⟩) (C := none) (by kernel_rfl) hold0 ?_
 refine SO_still 1 (y := ⟨[(1, (.fp (.agg [(.int .i64 d.kind), (.str d.name), (.int .i64 d.op), (.str d.evr), (.row 5 d.args.length (depAt d.args))])))], [], 1⟩) (by kernel_rfl) ?_
 refine SO_all [] [1] (y := ⟨[(1, (.fp (.agg [(.int .i64 d.kind), (.str d.name), (.int .i64 d.op), (.str d.evr), (.row 5 d.args.length (depAt d.args))])))], [], 1⟩) (C := none) (by kernel_rfl) hold0 ?_
 refine SW_seq ?_
 refine SW_reg ?_
 refine SO_all [] [1, 3] (y := ⟨[(1, (.fp (.agg [(.int .i64 d.kind), (.str d.name), (.int .i64 d.op), (.str d.evr), (.row 5 d.args.length (depAt d.args))]))), (3, (.ptr 1 0))], [(1, (.row [.nils] 30))], 2⟩) (C := none) (by kernel_rfl) hold0 ?_
 refine SW_seq ?_
 refine SW_reg ?_
 refine SO_thawC 9 1 1 0 (y := ⟨[(1, (.fp (.agg [(.int .i64 d.kind), (.str d.name), (.int .i64 d.op), (.str d.evr), (.row 5 d.args.length (depAt d.args))]))), (3, (.ptr 1 0))], [(1, (.row [(.own 2)] 30)), (2, (.grow ([] : List AV) 9 1))], 3⟩) rfl (by kernel_rfl) ?_
 refine SO_run 2 [] [3, 4, 5] (y := ⟨[(3, (.ptr 1 0)), (4, (.agg [(.int .i64 d.kind), (.str d.name), (.int .i64 d.op), (.str d.evr), (.row 5 d.args.length (depAt d.args))])), (5, (.fn 19 [] [(.ptr 1 0)]))], [(1, (.row [(.own 2)] 30)), (2, (.grow ([] : List AV) 9 1))], 3⟩) (C := none) (by kernel_rfl) hold0 ?_
 refine SO_callS [1, 2] (al := [(.agg [(.int .i64 d.kind), (.str d.name), (.int .i64 d.op), (.str d.evr), (.row 5 d.args.length (depAt d.args))]), (.fn 19 [] [(.ptr 1 0)])]) (al' := [(.agg [(.int .i64 d.kind), (.str d.name), (.int .i64 d.op), (.str d.evr), (.row 5 d.args.length (depAt d.args))]), (.fn 19 [] [(.ptr 0 0)])]) (r := (.tup [])) (r' := (.tup [])) (s' := [(3, (.ptr 1 0)), (4, (.agg [(.int .i64 d.kind), (.str d.name), (.int .i64 d.op), (.str d.evr), (.row 5 d.args.length (depAt d.args))])), (5, (.fn 19 [] [(.ptr 1 0)])), (6, (.tup []))]) (H := [(0, (.row [(.own 1)] 30)), (1, (.grow ([] : List AV) 9 1))]) (H' := [(0, (.row [(.own 1)] 30)), (1, (.grow ((allN d).map AV.str) 9 1))]) (h2 := [(1, (.row [(.own 2)] 30)), (2, (.grow ((allN d).map AV.str) 9 1))]) rfl (by exact en_18) (by kernel_rfl) (by kernel_rfl) (by kernel_rfl) (by kernel_rfl) (by kernel_rfl) (all_names d [] (by simp; omega)) (by kernel_rfl) (by kernel_rfl) (by kernel_rfl) ?_
 refine SO_nil ?_
 refine SW_seq ?_
 refine SW_reg ?_
 refine SO_run 1 [] [3, 7] (y := ⟨[(3, (.ptr 1 0)), (7, (.own 2))], [(1, (.row [(.own 2)] 30)), (2, (.grow ((allN d).map AV.str) 9 1))], 3⟩) (C := none) (by kernel_rfl) hold0 ?_
 refine SO_callS [1, 2] (al := [(.own 2)]) (al' := [(.own 1)]) (r := (.tup [])) (r' := (.tup [])) (s' := [(3, (.ptr 1 0)), (7, junk), (8, (.tup []))]) (H := [(0, (.row [(.own 1)] 30)), (1, (.grow ((allN d).map AV.str) 9 1))]) (H' := [(0, (.row [(.own 1)] 30)), (1, (.grow (((allN d).mergeSort fun x y => decide (x ≤ y)).map AV.str) 9 1))]) (h2 := [(1, (.row [(.own 2)] 30)), (2, (.grow (((allN d).mergeSort fun x y => decide (x ≤ y)).map AV.str) 9 1))]) rfl (by exact en_20) (by kernel_rfl) (by kernel_rfl) (by kernel_rfl) (by kernel_rfl) (by kernel_rfl) (sort_any (allN d) (by have := allN_len d; omega)) (by kernel_rfl) (by kernel_rfl) (by kernel_rfl) ?_
 refine SO_nil ?_
 refine SW_seq ?_
 refine SW_reg ?_
 refine SO_run 1 [] [9] (y := ⟨[(9, (.own 2))], [(1, (.row [(.own 2)] 30)), (2, (.grow (((allN d).mergeSort fun x y => decide (x ≤ y)).map AV.str) 9 1))], 3⟩) (C := none) (by kernel_rfl) hold0 ?_
 refine SO_callS [2] (al := [(.own 2)]) (al' := [(.own 0)]) (r := (.own 0)) (r' := (.own 2)) (s' := [(9, junk), (10, (.own 2))]) (H := [(0, (.grow (((allN d).mergeSort fun x y => decide (x ≤ y)).map AV.str) 9 1))]) (H' := [(0, (.grow ((namesF d).map AV.str) 9 1))]) (h2 := [(1, (.row [junk] 30)), (2, (.grow ((namesF d).map AV.str) 9 1))]) rfl (by exact en_21) (by kernel_rfl) (by kernel_rfl) (by kernel_rfl) (by kernel_rfl) (by kernel_rfl) (compact_any _ (by have := allN_len d; rw [List.length_mergeSort]; omega)) (by kernel_rfl) (by kernel_rfl) (by kernel_rfl) ?_
 refine SO_all [] [2] (y := ⟨[(2, (.own 2))], [(1, (.row [junk] 30)), (2, (.grow ((namesF d).map AV.str) 9 1))], 3⟩) (C := none) (by kernel_rfl) hold0 ?_
 refine SW_ret ?_
 refine retK_mk (.inl rfl) (al := [(.own 2)]) (by kernel_rfl) (rl := [(.row 1 ((namesF d).map AV.str).length (fun ix => ((namesF d).map AV.str).getD ix junk))]) (h' := [(1, (.row [junk] 30))]) (by kernel_rfl) ?_
 simp only [pack]
 exact Same.grown (f := AV.str) (l := namesF d) rfl
end Sv
end Go.Proofs.YtaegacblpbbndaaGreatDoor
end
section
namespace Go.Proofs.YtaegacblpbbndaaGreatDoor
open Go Go.RowKit
namespace Sv
abbrev Str := List UInt8
theorem slt_irrefl (x : Str) : ¬ x < x := List.lt_irrefl x
theorem slt_trans {x y z : Str} (h : x < y) (k : y < z) : x < z := List.lt_trans h k
theorem slt_asymm {x y : Str} (h : x < y) : ¬ y < x := fun k => slt_irrefl x (slt_trans h k)
theorem sle_of {x y : Str} (h : ¬ x < y) : y ≤ x := List.not_lt.1 h
theorem slt_of_le_ne {x y : Str} (h : x ≤ y) (k : x ≠ y) : x < y := by
  by_cases q : x < y
  · exact q
  · exact absurd (List.le_antisymm h (sle_of q)) k
theorem slt_of_le_lt {x y z : Str} (h : x ≤ y) (k : y < z) : x < z := by
  by_cases q : x = y
  · subst q; exact k
  · exact slt_trans (slt_of_le_ne h q) k
abbrev Rises (l : List Str) : Prop := l.Pairwise (· < ·)
theorem rises_ext : ∀ {l m : List Str}, Rises l → Rises m → (∀ x, x ∈ l ↔ x ∈ m) → l = m
  | [], [], _, _, _ => rfl
  | [], y :: m, _, _, h => by have := (h y).2 (by simp); simp at this
  | x :: l, [], _, _, h => by have := (h x).1 (by simp); simp at this
  | x :: l, y :: m, hl, hm, h => by
    obtain ⟨a1, a2⟩ := List.pairwise_cons.1 hl
    obtain ⟨b1, b2⟩ := List.pairwise_cons.1 hm
    have hxy : x = y := by
      rcases List.mem_cons.1 ((h x).1 (by simp)) with e | e
      · exact e
      · rcases List.mem_cons.1 ((h y).2 (by simp)) with e' | e'
        · exact e'.symm
        · exact absurd (b1 x e) (slt_asymm (a1 y e'))
    subst hxy
    congr 1
    refine rises_ext a2 b2 fun z => ?_
    constructor
    · intro hz
      rcases List.mem_cons.1 ((h z).1 (by simp [hz])) with e | e
      · subst e; exact absurd (a1 z hz) (slt_irrefl z)
      · exact e
    · intro hz
      rcases List.mem_cons.1 ((h z).2 (by simp [hz])) with e | e
      · subst e; exact absurd (b1 z hz) (slt_irrefl z)
      · exact e
theorem putL_mem {s x : Str} : ∀ {l : List Str}, x ∈ putL s l ↔ x = s ∨ x ∈ l
  | [] => by simp [putL]
  | y :: r => by
    unfold putL
    split
    · rw [List.mem_cons, putL_mem, List.mem_cons]
      constructor
      · rintro (h | h | h) <;> simp [h]
      · rintro (h | h | h) <;> simp [h]
    · split
      · rename_i h; subst h; simp
      · simp [List.mem_cons]
theorem putL_rises {s : Str} : ∀ {l : List Str}, Rises l → Rises (putL s l)
  | [], _ => by simp [putL]
  | y :: r, h => by
    obtain ⟨a1, a2⟩ := List.pairwise_cons.1 h
    unfold putL
    split
    · rename_i q
      rw [bytesLess_eq, decide_eq_true_eq] at q
      refine List.pairwise_cons.2 ⟨fun z hz => ?_, putL_rises a2⟩
      rcases putL_mem.1 hz with rfl | hz
      · exact q
      · exact a1 z hz
    · split
      · exact h
      · rename_i q q'
        rw [bytesLess_eq, decide_eq_true_eq] at q
        have hs : s < y := slt_of_le_ne (sle_of q) (fun e => q' e.symm)
        refine List.pairwise_cons.2 ⟨fun z hz => ?_, h⟩
        rcases List.mem_cons.1 hz with rfl | hz
        · exact hs
        · exact slt_trans hs (a1 z hz)
mutual
theorem namesL_mem {x : Str} : ∀ (d : DepT) (l : List Str), x ∈ namesL d l ↔ x ∈ allN d ∨ x ∈ l
  | .mk k nm op ev args, l => by
    unfold namesL allN
    rw [argsL_mem args _, List.mem_append]
    by_cases hk : k = 1
    · rw [if_pos hk, if_pos hk, putL_mem]
      simp only [List.mem_singleton]
      constructor
      · rintro (h | h | h) <;> simp [h]
      · rintro ((h | h) | h) <;> simp [h]
    · rw [if_neg hk, if_neg hk]; simp
theorem argsL_mem {x : Str} : ∀ (r : List DepT) (l : List Str), x ∈ argsL r l ↔ x ∈ allA r ∨ x ∈ l
  | [], l => by simp [argsL, allA]
  | d :: r, l => by
    unfold argsL allA
    rw [argsL_mem r _, namesL_mem d l, List.mem_append]
    constructor
    · rintro (h | h | h) <;> simp [h]
    · rintro ((h | h) | h) <;> simp [h]
end
mutual
theorem namesL_rises : ∀ (d : DepT) (l : List Str), Rises l → Rises (namesL d l)
  | .mk k nm op ev args, l, h => by
    unfold namesL
    refine argsL_rises args _ ?_
    split
    · exact putL_rises h
    · exact h
theorem argsL_rises : ∀ (r : List DepT) (l : List Str), Rises l → Rises (argsL r l)
  | [], l, h => h
  | d :: r, l, h => argsL_rises r _ (namesL_rises d l h)
end
theorem compact_rises {l : List Str} (h : l.Pairwise (· ≤ ·)) : Rises (Lib.compact l) ∧ ∀ x, x ∈ Lib.compact l ↔ x ∈ l := by
  have hget : ∀ i j, i ≤ j → j < l.length → l.toArray[i]! ≤ l.toArray[j]! := by
    intro i j hij hj
    rw [getElem!_pos l.toArray i (by simp; omega), getElem!_pos l.toArray j (by simpa using hj)]
    by_cases e : i = j
    · subst e; exact List.le_refl _
    · simpa using List.pairwise_iff_getElem.1 h i j (by omega) hj (by omega)
  have key : ∀ m, m ≤ l.length → Rises (Lib.compactUpTo l.toArray m) ∧ ∀ x, x ∈ Lib.compactUpTo l.toArray m ↔ ∃ j, j < m ∧ l.toArray[j]! = x := by
    intro m
    induction m with
    | zero => intro _; simp [Lib.compactUpTo]
    | succ m ih =>
      intro hm
      obtain ⟨i1, i2⟩ := ih (by omega)
      rw [Lib.compactUpTo_succ]
      by_cases hk : Lib.keeps l.toArray m = true
      · rw [if_pos hk]
        refine ⟨List.pairwise_append.2 ⟨i1, by simp, fun a ha b hb => ?_⟩, fun x => ?_⟩
        · have hb' : b = l.toArray[m]! := by simpa using hb
          subst hb'
          obtain ⟨j, hj, rfl⟩ := (i2 a).1 ha
          simp only [Lib.keeps, decide_eq_true_eq] at hk
          rcases hk with rfl | hk
          · omega
          · exact slt_of_le_lt (hget j (m - 1) (by omega) (by omega)) (slt_of_le_ne (hget (m - 1) m (by omega) (by omega)) (fun e => hk e.symm))
        · rw [List.mem_append, i2]
          simp only [List.mem_singleton]
          constructor
          · rintro (⟨j, hj, e⟩ | e)
            · exact ⟨j, by omega, e⟩
            · exact ⟨m, by omega, e.symm⟩
          · rintro ⟨j, hj, e⟩
            by_cases q : j = m
            · subst q; exact .inr e.symm
            · exact .inl ⟨j, by omega, e⟩
      · rw [if_neg hk, List.append_nil]
        refine ⟨i1, fun x => ?_⟩
        rw [i2]
        simp only [Lib.keeps, decide_eq_true_eq, not_or, Decidable.not_not] at hk
        constructor
        · rintro ⟨j, hj, e⟩; exact ⟨j, by omega, e⟩
        · rintro ⟨j, hj, e⟩
          by_cases q : j = m
          · subst q; exact ⟨j - 1, by omega, by rw [← hk.2]; exact e⟩
          · exact ⟨j, by omega, e⟩
  obtain ⟨k1, k2⟩ := key l.length (Nat.le_refl _)
  refine ⟨k1, fun x => ?_⟩
  rw [show Lib.compact l = Lib.compactUpTo l.toArray l.length from rfl, k2, List.mem_iff_getElem]
  constructor
  · rintro ⟨j, hj, e⟩
    rw [getElem!_pos l.toArray j (by simpa using hj)] at e
    exact ⟨j, hj, by simpa using e⟩
  · rintro ⟨j, hj, e⟩
    exact ⟨j, hj, by rw [getElem!_pos l.toArray j (by simpa using hj)]; simpa using e⟩
theorem sorted_le (l : List Str) : (l.mergeSort fun x y => decide (x ≤ y)).Pairwise (· ≤ ·) := by
  have := List.pairwise_mergeSort (le := fun x y : Str => decide (x ≤ y)) (fun a b c h k => by
    simp only [decide_eq_true_eq] at h k ⊢
    exact List.le_trans h k) (fun a b => by
    simp only [Bool.or_eq_true, decide_eq_true_eq]
    exact List.le_total a b) l
  exact this.imp fun h => by simpa using h
theorem names_rises (d : DepT) : Rises (namesF d) := (compact_rises (sorted_le _)).1
theorem names_mem (d : DepT) (x : Str) : x ∈ namesF d ↔ x ∈ allN d := by
  unfold namesF
  rw [(compact_rises (sorted_le _)).2 x, List.mem_mergeSort]
theorem names_same (d : DepT) : namesF d = namesL d [] :=
  rises_ext (names_rises d) (namesL_rises d [] List.Pairwise.nil) fun x => by rw [names_mem, namesL_mem]; simp
end Sv
end Go.Proofs.YtaegacblpbbndaaGreatDoor
end
section
namespace Go.Proofs.YtaegacblpbbndaaGreatDoor
open Go Go.RowKit
namespace Sv
attribute [local irreducible] SW SO
theorem en_6 : Enters Tryz.prog 6 := enters_of Tryz.func6 (by kernel_rfl) rfl
theorem en_12 : Enters Tryz.prog 12 := enters_of Tryz.func12 (by kernel_rfl) rfl
theorem en_11 : Enters Tryz.prog 11 := enters_of Tryz.func11 (by kernel_rfl) rfl
theorem en_9 : Enters Tryz.prog 9 := enters_of Tryz.func9 (by kernel_rfl) rfl
theorem CheckV (d : DepT) (hs : d.size ≤ 4194304) : FnV Tryz.prog 12 [depX d] (.int .i64 (checkE d)) := FnV.of_dep (rv := .int .i64 (checkE d)) (fun F => by simp only [VR]) fun w cs h => check_any d cs h hs
theorem PrintV (d : DepT) (hs : d.size ≤ 4194304) : FnV Tryz.prog 6 [depX d] (.tup [.str (printF d).1, .int .i64 (printF d).2]) :=
 FnV.of_dep (rv := .tuple #[S (printF d).1, .int .i64 (printF d).2]) (fun F => by
  simp only [VR]
  exact ⟨[_, _], .cons (by simp only [VR]) (.cons (by simp only [VR]) .nil), rfl⟩) fun w cs h => Print_any d cs h hs
theorem SameV (d d' : DepT) (hs : d.size ≤ 4194304) (hs' : d'.size ≤ 4194304) : FnV Tryz.prog 11 [depX d, depX d'] (.bool (sameB d d')) := FnV.of_dep2 (rv := .bool (sameB d d')) (fun F => by simp only [VR]) fun w cs cs' h h' => same_any d d' w cs cs' h h' hs hs'
theorem awakeV : FnV Tryz.prog 4 [] (.bool true) := FnV.of_none (rv := .bool true) (fun F => by simp only [VR]) fun w => awake_any w
theorem names_len (d : DepT) : (namesF d).length ≤ d.size := by
 have h1 := compact_le ((allN d).mergeSort fun x y => decide (x ≤ y))
 have h2 := allN_len d
 rw [List.length_mergeSort] at h1
 exact Nat.le_trans h1 h2
set_option maxHeartbeats 400000 in
set_option maxRecDepth 100000 in
theorem printsV (d : DepT) (hs : d.size ≤ 4194304) :
  FnV Tryz.prog 3 [(.agg [(.int .i64 d.kind), (.str d.name), (.int .i64 d.op), (.str d.evr), (.row 5 d.args.length (depAt d.args))])] (.bool true) := by
 have hn := names_len d
 refine FnV_intro [.tmp 2] Tryz.func3 rfl Tryz.ntmps3 rfl rfl (fun B F hF => ?_)
 refine SW_seq ?_
 refine SW_reg ?_
 refine SO_run 1 [] [1] (y := ⟨[(1, (.ptr 0 0))], [(0, (.row [(.int .i64 d.kind), (.str d.name), (.int .i64 d.op), (.str d.evr), (.row 5 d.args.length (depAt d.args))] 24))], 1⟩) (C := none) (by kernel_rfl) hold0 ?_
 refine SO_still 1 (y := ⟨[(1, (.fp (.agg [(.int .i64 d.kind), (.str d.name), (.int .i64 d.op), (.str d.evr), (.row 5 d.args.length (depAt d.args))])))], [], 1⟩) (by kernel_rfl) ?_
 refine SO_all [] [1] (y := ⟨[(1, (.fp (.agg [(.int .i64 d.kind), (.str d.name), (.int .i64 d.op), (.str d.evr), (.row 5 d.args.length (depAt d.args))])))], [], 1⟩) (C := none) (by kernel_rfl) hold0 ?_
 refine SW_seq ?_
 refine SW_reg ?_
 refine SO_call (s' := [(1, (.fp (.agg [(.int .i64 d.kind), (.str d.name), (.int .i64 d.op), (.str d.evr), (.row 5 d.args.length (depAt d.args))]))), (12, (.bool true))]) (al := []) (r := (.bool true)) rfl (by exact en_4) (by kernel_rfl) (by kernel_rfl) awakeV (by kernel_rfl) ?_
 refine SO_all [] [1, 3] (y := ⟨[(1, (.fp (.agg [(.int .i64 d.kind), (.str d.name), (.int .i64 d.op), (.str d.evr), (.row 5 d.args.length (depAt d.args))]))), (3, (.bool true))], [], 1⟩) (C := none) (by kernel_rfl) hold0 ?_
 refine SW_seq ?_
 refine SW_reg ?_
 refine SO_run 1 [] [1, 3, 13] (y := ⟨[(1, (.fp (.agg [(.int .i64 d.kind), (.str d.name), (.int .i64 d.op), (.str d.evr), (.row 5 d.args.length (depAt d.args))]))), (3, (.bool true)), (13, (.agg [(.int .i64 d.kind), (.str d.name), (.int .i64 d.op), (.str d.evr), (.row 5 d.args.length (depAt d.args))]))], [], 1⟩) (C := none) (by kernel_rfl) hold0 ?_
 refine SO_call (s' := [(1, (.fp (.agg [(.int .i64 d.kind), (.str d.name), (.int .i64 d.op), (.str d.evr), (.row 5 d.args.length (depAt d.args))]))), (3, (.bool true)), (13, (.agg [(.int .i64 d.kind), (.str d.name), (.int .i64 d.op), (.str d.evr), (.row 5 d.args.length (depAt d.args))])), (14, (.agg [(.int .i64 d.kind), (.str d.name), (.int .i64 d.op), (.str d.evr), (.row 5 d.args.length (depAt d.args))]))]) (al := [(.agg [(.int .i64 d.kind), (.str d.name), (.int .i64 d.op), (.str d.evr), (.row 5 d.args.length (depAt d.args))])]) (r := (.agg [(.int .i64 d.kind), (.str d.name), (.int .i64 d.op), (.str d.evr), (.row 5 d.args.length (depAt d.args))])) rfl (by exact en_5) (by kernel_rfl) (by kernel_rfl) (refOwn_any d hs) (by kernel_rfl) ?_
 refine SO_all [] [1, 3, 4] (y := ⟨[(1, (.fp (.agg [(.int .i64 d.kind), (.str d.name), (.int .i64 d.op), (.str d.evr), (.row 5 d.args.length (depAt d.args))]))), (3, (.bool true)), (4, (.ptr 1 0))], [(1, (.row [(.int .i64 d.kind), (.str d.name), (.int .i64 d.op), (.str d.evr), (.row 5 d.args.length (depAt d.args))] 24))], 2⟩) (C := none) (by kernel_rfl) hold0 ?_
 refine SW_seq ?_
 refine SW_reg ?_
 refine SO_still 4 (y := ⟨[(1, (.fp (.agg [(.int .i64 d.kind), (.str d.name), (.int .i64 d.op), (.str d.evr), (.row 5 d.args.length (depAt d.args))]))), (3, (.bool true)), (4, (.fp (.agg [(.int .i64 d.kind), (.str d.name), (.int .i64 d.op), (.str d.evr), (.row 5 d.args.length (depAt d.args))])))], [], 2⟩) (by kernel_rfl) ?_
 refine SO_run 1 [] [1, 3, 4, 16] (y := ⟨[(1, (.fp (.agg [(.int .i64 d.kind), (.str d.name), (.int .i64 d.op), (.str d.evr), (.row 5 d.args.length (depAt d.args))]))), (3, (.bool true)), (4, (.fp (.agg [(.int .i64 d.kind), (.str d.name), (.int .i64 d.op), (.str d.evr), (.row 5 d.args.length (depAt d.args))]))), (16, (.agg [(.int .i64 d.kind), (.str d.name), (.int .i64 d.op), (.str d.evr), (.row 5 d.args.length (depAt d.args))]))], [], 2⟩) (C := none) (by kernel_rfl) hold0 ?_
 refine SO_call (s' := [(1, (.fp (.agg [(.int .i64 d.kind), (.str d.name), (.int .i64 d.op), (.str d.evr), (.row 5 d.args.length (depAt d.args))]))), (3, (.bool true)), (4, (.fp (.agg [(.int .i64 d.kind), (.str d.name), (.int .i64 d.op), (.str d.evr), (.row 5 d.args.length (depAt d.args))]))), (16, (.agg [(.int .i64 d.kind), (.str d.name), (.int .i64 d.op), (.str d.evr), (.row 5 d.args.length (depAt d.args))])), (17, (.tup [(.str ((printF d).1)), (.int .i64 ((printF d).2))]))]) (al := [(.agg [(.int .i64 d.kind), (.str d.name), (.int .i64 d.op), (.str d.evr), (.row 5 d.args.length (depAt d.args))])]) (r := (.tup [(.str ((printF d).1)), (.int .i64 ((printF d).2))])) rfl (by exact en_6) (by kernel_rfl) (by kernel_rfl) (PrintV d hs) (by kernel_rfl) ?_
 refine SO_all [] [1, 3, 4, 5, 6] (y := ⟨[(1, (.fp (.agg [(.int .i64 d.kind), (.str d.name), (.int .i64 d.op), (.str d.evr), (.row 5 d.args.length (depAt d.args))]))), (3, (.bool true)), (4, (.fp (.agg [(.int .i64 d.kind), (.str d.name), (.int .i64 d.op), (.str d.evr), (.row 5 d.args.length (depAt d.args))]))), (5, (.str ((printF d).1))), (6, (.int .i64 ((printF d).2)))], [], 2⟩) (C := none) (by kernel_rfl) hold0 ?_
 refine SW_seq ?_
 refine SW_reg ?_
 refine SO_run 1 [] [1, 3, 4, 5, 6, 21] (y := ⟨[(1, (.fp (.agg [(.int .i64 d.kind), (.str d.name), (.int .i64 d.op), (.str d.evr), (.row 5 d.args.length (depAt d.args))]))), (3, (.bool true)), (4, (.fp (.agg [(.int .i64 d.kind), (.str d.name), (.int .i64 d.op), (.str d.evr), (.row 5 d.args.length (depAt d.args))]))), (5, (.str ((printF d).1))), (6, (.int .i64 ((printF d).2))), (21, (.agg [(.int .i64 d.kind), (.str d.name), (.int .i64 d.op), (.str d.evr), (.row 5 d.args.length (depAt d.args))]))], [], 2⟩) (C := none) (by kernel_rfl) hold0 ?_
 refine SO_call (s' := [(1, (.fp (.agg [(.int .i64 d.kind), (.str d.name), (.int .i64 d.op), (.str d.evr), (.row 5 d.args.length (depAt d.args))]))), (3, (.bool true)), (4, (.fp (.agg [(.int .i64 d.kind), (.str d.name), (.int .i64 d.op), (.str d.evr), (.row 5 d.args.length (depAt d.args))]))), (5, (.str ((printF d).1))), (6, (.int .i64 ((printF d).2))), (21, (.agg [(.int .i64 d.kind), (.str d.name), (.int .i64 d.op), (.str d.evr), (.row 5 d.args.length (depAt d.args))])), (22, (.tup [(.str ((printF d).1)), (.int .i64 ((printF d).2))]))]) (al := [(.agg [(.int .i64 d.kind), (.str d.name), (.int .i64 d.op), (.str d.evr), (.row 5 d.args.length (depAt d.args))])]) (r := (.tup [(.str ((printF d).1)), (.int .i64 ((printF d).2))])) rfl (by exact en_7) (by kernel_rfl) (by kernel_rfl) (refPrint_any d hs) (by kernel_rfl) ?_
 refine SO_all [] [1, 3, 4, 5, 6, 7, 8] (y := ⟨[(1, (.fp (.agg [(.int .i64 d.kind), (.str d.name), (.int .i64 d.op), (.str d.evr), (.row 5 d.args.length (depAt d.args))]))), (3, (.bool true)), (4, (.fp (.agg [(.int .i64 d.kind), (.str d.name), (.int .i64 d.op), (.str d.evr), (.row 5 d.args.length (depAt d.args))]))), (5, (.str ((printF d).1))), (6, (.int .i64 ((printF d).2))), (7, (.str ((printF d).1))), (8, (.int .i64 ((printF d).2)))], [], 2⟩) (C := none) (by kernel_rfl) hold0 ?_
 refine SW_seq ?_
 refine SW_reg ?_
 refine SO_run 1 [] [1, 3, 4, 5, 6, 7, 8, 25] (y := ⟨[(1, (.fp (.agg [(.int .i64 d.kind), (.str d.name), (.int .i64 d.op), (.str d.evr), (.row 5 d.args.length (depAt d.args))]))), (3, (.bool true)), (4, (.fp (.agg [(.int .i64 d.kind), (.str d.name), (.int .i64 d.op), (.str d.evr), (.row 5 d.args.length (depAt d.args))]))), (5, (.str ((printF d).1))), (6, (.int .i64 ((printF d).2))), (7, (.str ((printF d).1))), (8, (.int .i64 ((printF d).2))), (25, (.agg [(.int .i64 d.kind), (.str d.name), (.int .i64 d.op), (.str d.evr), (.row 5 d.args.length (depAt d.args))]))], [], 2⟩) (C := none) (by kernel_rfl) hold0 ?_
 refine SO_call (s' := [(1, (.fp (.agg [(.int .i64 d.kind), (.str d.name), (.int .i64 d.op), (.str d.evr), (.row 5 d.args.length (depAt d.args))]))), (3, (.bool true)), (4, (.fp (.agg [(.int .i64 d.kind), (.str d.name), (.int .i64 d.op), (.str d.evr), (.row 5 d.args.length (depAt d.args))]))), (5, (.str ((printF d).1))), (6, (.int .i64 ((printF d).2))), (7, (.str ((printF d).1))), (8, (.int .i64 ((printF d).2))), (25, (.agg [(.int .i64 d.kind), (.str d.name), (.int .i64 d.op), (.str d.evr), (.row 5 d.args.length (depAt d.args))])), (26, (strs (namesF d)))]) (al := [(.agg [(.int .i64 d.kind), (.str d.name), (.int .i64 d.op), (.str d.evr), (.row 5 d.args.length (depAt d.args))])]) (r := (strs (namesF d))) rfl (by exact en_8) (by kernel_rfl) (by kernel_rfl) (NamesV d hs) (by kernel_rfl) ?_
 refine SO_all [] [1, 3, 4, 5, 6, 7, 8, 9] (y := ⟨[(1, (.fp (.agg [(.int .i64 d.kind), (.str d.name), (.int .i64 d.op), (.str d.evr), (.row 5 d.args.length (depAt d.args))]))), (3, (.bool true)), (4, (.fp (.agg [(.int .i64 d.kind), (.str d.name), (.int .i64 d.op), (.str d.evr), (.row 5 d.args.length (depAt d.args))]))), (5, (.str ((printF d).1))), (6, (.int .i64 ((printF d).2))), (7, (.str ((printF d).1))), (8, (.int .i64 ((printF d).2))), (9, (strs (namesF d)))], [], 2⟩) (C := none) (by kernel_rfl) hold0 ?_
 refine SW_seq ?_
 refine SW_reg ?_
 refine SO_run 2 [] [1, 3, 4, 5, 6, 7, 8, 27, 28] (y := ⟨[(1, (.fp (.agg [(.int .i64 d.kind), (.str d.name), (.int .i64 d.op), (.str d.evr), (.row 5 d.args.length (depAt d.args))]))), (3, (.bool true)), (4, (.fp (.agg [(.int .i64 d.kind), (.str d.name), (.int .i64 d.op), (.str d.evr), (.row 5 d.args.length (depAt d.args))]))), (5, (.str ((printF d).1))), (6, (.int .i64 ((printF d).2))), (7, (.str ((printF d).1))), (8, (.int .i64 ((printF d).2))), (27, (strs (namesF d))), (28, (.agg [(.int .i64 d.kind), (.str d.name), (.int .i64 d.op), (.str d.evr), (.row 5 d.args.length (depAt d.args))]))], [], 2⟩) (C := none) (by kernel_rfl) hold0 ?_
 refine SO_call (s' := [(1, (.fp (.agg [(.int .i64 d.kind), (.str d.name), (.int .i64 d.op), (.str d.evr), (.row 5 d.args.length (depAt d.args))]))), (3, (.bool true)), (4, (.fp (.agg [(.int .i64 d.kind), (.str d.name), (.int .i64 d.op), (.str d.evr), (.row 5 d.args.length (depAt d.args))]))), (5, (.str ((printF d).1))), (6, (.int .i64 ((printF d).2))), (7, (.str ((printF d).1))), (8, (.int .i64 ((printF d).2))), (27, (strs (namesF d))), (28, (.agg [(.int .i64 d.kind), (.str d.name), (.int .i64 d.op), (.str d.evr), (.row 5 d.args.length (depAt d.args))])), (29, (strs (namesL d [])))]) (al := [(.agg [(.int .i64 d.kind), (.str d.name), (.int .i64 d.op), (.str d.evr), (.row 5 d.args.length (depAt d.args))])]) (r := (strs (namesL d []))) rfl (by exact en_10) (by kernel_rfl) (by kernel_rfl) (refNamesV d hs) (by kernel_rfl) ?_
 refine SO_call (s' := [(1, (.fp (.agg [(.int .i64 d.kind), (.str d.name), (.int .i64 d.op), (.str d.evr), (.row 5 d.args.length (depAt d.args))]))), (3, (.bool true)), (4, (.fp (.agg [(.int .i64 d.kind), (.str d.name), (.int .i64 d.op), (.str d.evr), (.row 5 d.args.length (depAt d.args))]))), (5, (.str ((printF d).1))), (6, (.int .i64 ((printF d).2))), (7, (.str ((printF d).1))), (8, (.int .i64 ((printF d).2))), (27, (strs (namesF d))), (28, (.agg [(.int .i64 d.kind), (.str d.name), (.int .i64 d.op), (.str d.evr), (.row 5 d.args.length (depAt d.args))])), (29, (strs (namesL d []))), (30, (.bool (decide (namesF d = namesL d []))))]) (al := [(strs (namesF d)), (strs (namesL d []))]) (r := (.bool (decide (namesF d = namesL d [])))) rfl (by exact en_9) (by kernel_rfl) (by kernel_rfl) (sameTexts_any _ _ (by omega)) (by kernel_rfl) ?_
 refine SO_all [] [1, 3, 4, 5, 6, 7, 8, 10] (y := ⟨[(1, (.fp (.agg [(.int .i64 d.kind), (.str d.name), (.int .i64 d.op), (.str d.evr), (.row 5 d.args.length (depAt d.args))]))), (3, (.bool true)), (4, (.fp (.agg [(.int .i64 d.kind), (.str d.name), (.int .i64 d.op), (.str d.evr), (.row 5 d.args.length (depAt d.args))]))), (5, (.str ((printF d).1))), (6, (.int .i64 ((printF d).2))), (7, (.str ((printF d).1))), (8, (.int .i64 ((printF d).2))), (10, (.bool (decide (namesF d = namesL d []))))], [], 2⟩) (C := none) (by kernel_rfl) hold0 ?_
 refine SW_seq ?_
 refine SW_reg ?_
 refine SO_run 2 [] [1, 3, 4, 5, 6, 7, 8, 10, 31, 32] (y := ⟨[(1, (.fp (.agg [(.int .i64 d.kind), (.str d.name), (.int .i64 d.op), (.str d.evr), (.row 5 d.args.length (depAt d.args))]))), (3, (.bool true)), (4, (.fp (.agg [(.int .i64 d.kind), (.str d.name), (.int .i64 d.op), (.str d.evr), (.row 5 d.args.length (depAt d.args))]))), (5, (.str ((printF d).1))), (6, (.int .i64 ((printF d).2))), (7, (.str ((printF d).1))), (8, (.int .i64 ((printF d).2))), (10, (.bool (decide (namesF d = namesL d [])))), (31, (.agg [(.int .i64 d.kind), (.str d.name), (.int .i64 d.op), (.str d.evr), (.row 5 d.args.length (depAt d.args))])), (32, (.agg [(.int .i64 d.kind), (.str d.name), (.int .i64 d.op), (.str d.evr), (.row 5 d.args.length (depAt d.args))]))], [], 2⟩) (C := none) (by kernel_rfl) hold0 ?_
 refine SO_call (s' := [(1, (.fp (.agg [(.int .i64 d.kind), (.str d.name), (.int .i64 d.op), (.str d.evr), (.row 5 d.args.length (depAt d.args))]))), (3, (.bool true)), (4, (.fp (.agg [(.int .i64 d.kind), (.str d.name), (.int .i64 d.op), (.str d.evr), (.row 5 d.args.length (depAt d.args))]))), (5, (.str ((printF d).1))), (6, (.int .i64 ((printF d).2))), (7, (.str ((printF d).1))), (8, (.int .i64 ((printF d).2))), (10, (.bool (decide (namesF d = namesL d [])))), (31, (.agg [(.int .i64 d.kind), (.str d.name), (.int .i64 d.op), (.str d.evr), (.row 5 d.args.length (depAt d.args))])), (32, (.agg [(.int .i64 d.kind), (.str d.name), (.int .i64 d.op), (.str d.evr), (.row 5 d.args.length (depAt d.args))])), (33, (.bool (sameB d d)))]) (al := [(.agg [(.int .i64 d.kind), (.str d.name), (.int .i64 d.op), (.str d.evr), (.row 5 d.args.length (depAt d.args))]), (.agg [(.int .i64 d.kind), (.str d.name), (.int .i64 d.op), (.str d.evr), (.row 5 d.args.length (depAt d.args))])]) (r := (.bool (sameB d d))) rfl (by exact en_11) (by kernel_rfl) (by kernel_rfl) (SameV d d hs hs) (by kernel_rfl) ?_
 refine SO_all [] [1, 3, 4, 5, 6, 7, 8, 10, 11] (y := ⟨[(1, (.fp (.agg [(.int .i64 d.kind), (.str d.name), (.int .i64 d.op), (.str d.evr), (.row 5 d.args.length (depAt d.args))]))), (3, (.bool true)), (4, (.fp (.agg [(.int .i64 d.kind), (.str d.name), (.int .i64 d.op), (.str d.evr), (.row 5 d.args.length (depAt d.args))]))), (5, (.str ((printF d).1))), (6, (.int .i64 ((printF d).2))), (7, (.str ((printF d).1))), (8, (.int .i64 ((printF d).2))), (10, (.bool (decide (namesF d = namesL d [])))), (11, (.bool (sameB d d)))], [], 2⟩) (C := none) (by kernel_rfl) hold0 ?_
 refine SW_seq ?_
 refine SW_draw (by kernel_rfl) (fun F1 hF1 => ?_)
 refine SG_frees (lz := [41, 42, 43, 46, 48]) [0, 1, 2, 3, 4, 5, 6, 7, 8, 9, 10, 11, 12, 14] [10, 11, 45, 46, 48] (fuel := 11) (L := #[true, true, true, true, true, true, true, true, true, true, true, true, true, false, true, false, false, false, false, false, false, false, false, false, false]) (y := ⟨[(10, (.bool (decide (namesF d = namesL d [])))), (11, (.bool (sameB d d))), (45, (.bool ((decide ((printF d).1 = (printF d).1)) && (decide (((printF d).2) = ((printF d).2)))))), (46, (.cond ((decide ((printF d).1 = (printF d).1)) && (decide (((printF d).2) = ((printF d).2)))) (.agg [(.int .i64 d.kind), (.str d.name), (.int .i64 d.op), (.str d.evr), (.row 5 d.args.length (depAt d.args))]))), (48, (.cond ((decide ((printF d).1 = (printF d).1)) && (decide (((printF d).2) = ((printF d).2)))) (.agg [(.int .i64 d.kind), (.str d.name), (.int .i64 d.op), (.str d.evr), (.row 5 d.args.length (depAt d.args))])))], [], 2⟩) (C := some (((decide ((printF d).1 = (printF d).1)) = true → (decide ((printF d).1 = (printF d).1)) = true ∧ (decide ((printF d).1 = (printF d).1)) = true) ∧ ((decide ((printF d).1 = (printF d).1)) = true → (decide ((printF d).1 = (printF d).1)) = true))) (by kernel_rfl) (by kernel_rfl) (by kernel_rfl) (hold (by first | omega | (simp; omega) | (simp; done) | (intros; simp_all; omega) | (intros; simp_all; done))) ?_
 refine SG_one (fuel := 10) 13 (by kernel_rfl) ?_
 refine SN_callg (s' := [(10, (.bool (decide (namesF d = namesL d [])))), (11, (.bool (sameB d d))), (45, (.bool ((decide ((printF d).1 = (printF d).1)) && (decide (((printF d).2) = ((printF d).2)))))), (46, (.cond ((decide ((printF d).1 = (printF d).1)) && (decide (((printF d).2) = ((printF d).2)))) (.agg [(.int .i64 d.kind), (.str d.name), (.int .i64 d.op), (.str d.evr), (.row 5 d.args.length (depAt d.args))]))), (48, (.cond ((decide ((printF d).1 = (printF d).1)) && (decide (((printF d).2) = ((printF d).2)))) (.agg [(.int .i64 d.kind), (.str d.name), (.int .i64 d.op), (.str d.evr), (.row 5 d.args.length (depAt d.args))]))), (47, (.cond ((decide ((printF d).1 = (printF d).1)) && (decide (((printF d).2) = ((printF d).2)))) (.int .i64 (checkE d))))]) (q := (decide ((printF d).1 = (printF d).1)) && (decide (((printF d).2) = ((printF d).2)))) (fuel := 10) 13 (al := [(.agg [(.int .i64 d.kind), (.str d.name), (.int .i64 d.op), (.str d.evr), (.row 5 d.args.length (depAt d.args))])]) (r := (.int .i64 (checkE d))) rfl rfl (by exact en_12) (by kernel_rfl) (fun cg => (hold (by first | omega | (simp; omega) | (simp; done) | (intros; simp_all; omega) | (intros; simp_all; done)))) (by kernel_rfl) (fun cg => CheckV d hs) (by kernel_rfl) ?_
 refine SG_one (fuel := 9) 15 (by kernel_rfl) ?_
 refine SN_callg (s' := [(10, (.bool (decide (namesF d = namesL d [])))), (11, (.bool (sameB d d))), (45, (.bool ((decide ((printF d).1 = (printF d).1)) && (decide (((printF d).2) = ((printF d).2)))))), (46, (.cond ((decide ((printF d).1 = (printF d).1)) && (decide (((printF d).2) = ((printF d).2)))) (.agg [(.int .i64 d.kind), (.str d.name), (.int .i64 d.op), (.str d.evr), (.row 5 d.args.length (depAt d.args))]))), (48, (.cond ((decide ((printF d).1 = (printF d).1)) && (decide (((printF d).2) = ((printF d).2)))) (.agg [(.int .i64 d.kind), (.str d.name), (.int .i64 d.op), (.str d.evr), (.row 5 d.args.length (depAt d.args))]))), (47, (.cond ((decide ((printF d).1 = (printF d).1)) && (decide (((printF d).2) = ((printF d).2)))) (.int .i64 (checkE d)))), (49, (.cond ((decide ((printF d).1 = (printF d).1)) && (decide (((printF d).2) = ((printF d).2)))) (.int .i64 (checkE d))))]) (q := (decide ((printF d).1 = (printF d).1)) && (decide (((printF d).2) = ((printF d).2)))) (fuel := 9) 15 (al := [(.agg [(.int .i64 d.kind), (.str d.name), (.int .i64 d.op), (.str d.evr), (.row 5 d.args.length (depAt d.args))])]) (r := (.int .i64 (checkE d))) rfl rfl (by exact en_13) (by kernel_rfl) (fun cg => (hold (by first | omega | (simp; omega) | (simp; done) | (intros; simp_all; omega) | (intros; simp_all; done)))) (by kernel_rfl) (fun cg => refCheckV d hs) (by kernel_rfl) ?_
 refine SG_frees (lz := [50, 53, 56]) [16, 17, 18, 19, 20, 21, 22, 23, 24] [2] (fuel := 0) (L := #[true, true, true, true, true, true, true, true, true, true, true, true, true, true, true, true, true, true, true, true, true, true, true, true, true]) (y := ⟨[(2, (.bool (((((decide ((printF d).1 = (printF d).1)) && (decide (((printF d).2) = ((printF d).2)))) && (decide ((checkE d) = (checkE d)))) && (decide (namesF d = namesL d []))) && (sameB d d))))], [], 2⟩) (C := some ((((decide ((printF d).1 = (printF d).1)) && (decide (((printF d).2) = ((printF d).2)))) = true → ((decide ((printF d).1 = (printF d).1)) && (decide (((printF d).2) = ((printF d).2)))) = true ∧ ((decide ((printF d).1 = (printF d).1)) && (decide (((printF d).2) = ((printF d).2)))) = true) ∧ (((decide ((printF d).1 = (printF d).1)) && (decide (((printF d).2) = ((printF d).2)))) = true → ((decide ((printF d).1 = (printF d).1)) && (decide (((printF d).2) = ((printF d).2)))) = true) ∧ ((((decide ((printF d).1 = (printF d).1)) && (decide (((printF d).2) = ((printF d).2)))) && (decide ((checkE d) = (checkE d)))) = true → (((decide ((printF d).1 = (printF d).1)) && (decide (((printF d).2) = ((printF d).2)))) && (decide ((checkE d) = (checkE d)))) = true) ∧ (((((decide ((printF d).1 = (printF d).1)) && (decide (((printF d).2) = ((printF d).2)))) && (decide ((checkE d) = (checkE d)))) && (decide (namesF d = namesL d []))) = true → ((((decide ((printF d).1 = (printF d).1)) && (decide (((printF d).2) = ((printF d).2)))) && (decide ((checkE d) = (checkE d)))) && (decide (namesF d = namesL d []))) = true))) (by kernel_rfl) (by kernel_rfl) (by kernel_rfl) (hold (by first | omega | (simp; omega) | (simp; done) | (intros; simp_all; omega) | (intros; simp_all; done))) ?_
 refine SG_sel [2] (s := [(2, (.bool (((((decide ((printF d).1 = (printF d).1)) && (decide (((printF d).2) = ((printF d).2)))) && (decide ((checkE d) = (checkE d)))) && (decide (namesF d = namesL d []))) && (sameB d d))))]) (by kernel_rfl) ?_
 refine SG_done (by kernel_rfl) ?_
 refine SW_ret ?_
 refine retK_mk (.inl rfl) (al := [(.bool (((((decide ((printF d).1 = (printF d).1)) && (decide (((printF d).2) = ((printF d).2)))) && (decide ((checkE d) = (checkE d)))) && (decide (namesF d = namesL d []))) && (sameB d d)))]) (by kernel_rfl) (rl := [(.bool (((((decide ((printF d).1 = (printF d).1)) && (decide (((printF d).2) = ((printF d).2)))) && (decide ((checkE d) = (checkE d)))) && (decide (namesF d = namesL d []))) && (sameB d d)))]) (h' := []) (by kernel_rfl) ?_
 exact Same.of_eq (by simp only [pack]; rw [decide_eq_true (names_same d), (sameB_eq d d).2 rfl]; simp)
end Sv
end Go.Proofs.YtaegacblpbbndaaGreatDoor
end
section
namespace Go.Proofs.YtaegacblpbbndaaGreatDoor
open Go Go.RowKit
set_option linter.unusedSimpArgs false
set_option linter.unusedVariables false
namespace Sv
def allF (W : World) : Nat → Option Obj := fun b => W.heap[b]?
theorem fro_all (W : World) : Fro (allF W) W := fun _ _ e => e
theorem cell_block {w : World} {b k : Nat} {v : Value} (h : w.cell? ⟨b, k, none⟩ = some v) : ∃ cs e fr, w.heap[b]? = some (.cells cs e fr) ∧ cs[k]? = some v := by
  unfold World.cell? at h
  split at h
  · rename_i c e fr hb
    exact ⟨c, e, fr, hb, by simpa using h⟩
  · cases h
theorem two_nth {α : Type} [Inhabited α] {R : α → List Value → Prop} : ∀ {l : List α} {m : List (List Value)}, Two R l m → ∀ {i}, i < l.length → R (Go.Proofs.YtaegacblpbbndaaGreatDoor.nth l i) (Go.Proofs.YtaegacblpbbndaaGreatDoor.nth m i)
  | [], [], _, i, h => by simp at h
  | _ :: _, [], h, _, _ => h.elim
  | a :: l, b :: m, h, 0, _ => h.1
  | a :: l, b :: m, h, i + 1, hi => two_nth (l := l) (m := m) h.2 (by simpa using hi)
section
variable {H : Type} {enc : TypeId × Value → H} {P : Program} {W : World}
theorem open_listV {α : Type} [Inhabited α] {t e : TypeId} {sz fuel : Nat} {cs : List Value} {y : DataW H × List MemPlace} (ht : P.underlying t = some (.slice e)) (hc : P.cellsOf e = sz) (hsz : 0 < sz) {f : α → AV} {size : α → Nat} (wrap : List Value → Value)
    (hw : ∀ cs', cs'.length = sz → (∀ c ∈ cs', c.oneCell' = true) → (wrap cs').cells.toList = cs')
    (each : ∀ n cs' y, n < fuel → cs'.length = sz → DataW.trod enc P W 0 (fun _ => true) true n e cs' = some y → ∃ x, (VR (ofF (allF W)) (f x) (wrap cs') ∧ ∀ c ∈ cs', c.oneCell' = true) ∧ size x ≤ Rows.uptoBulk y.1) (h : DataW.trod enc P W 0 (fun _ => true) true fuel t cs = some y) :
    ∃ (v : Value) (l : List α), cs = [v] ∧ VR (ofF (allF W)) (rowOf sz f l) v ∧ (l.map size).sum + 1 ≤ Rows.uptoBulk y.1 := by
  obtain ⟨v, l, css, rfl, hr, h2, h4, h5⟩ := open_list (Q := fun x cs' => VR (ofF (allF W)) (f x) (wrap cs') ∧ ∀ c ∈ cs', c.oneCell' = true) ht hc hsz each h
  refine ⟨v, l, rfl, ?_, h5⟩
  have hshape : v = .slice none 0 0 ∨ ∃ a n c, v = .slice (some a) n c ∧ n ≤ c := by
    rcases DataW.trod_slice ht h with ⟨e, _⟩ | ⟨a, len, cap, _, _, _, _, e, _, _, hle, _⟩
    · left; simpa using e
    · right; exact ⟨a, len, cap, by simpa using e, hle⟩
  unfold rowOf
  simp only [VR]
  have hlen := h2.len
  refine ⟨fun i => wrap (nth css i), fun i hi => (two_nth h2 hi).1, ?_⟩
  rcases hr.2 with ⟨h0, a, c, rfl⟩ | ⟨b, o, c, rfl, hcell⟩
  · refine .inl ⟨h0, ?_⟩
    rcases hshape with e | ⟨a', n, c', e, _⟩
    · exact .inl e
    · cases e; exact .inr ⟨a', c, rfl⟩
  · have hnc : l.length ≤ c := by
      rcases hshape with e | ⟨a', n, c', e, hle⟩
      · cases e
      · cases e; exact hle
    refine .inr ⟨b, o, c, rfl, hnc, fun i hi => ?_⟩
    have hmem : nth css i ∈ css := nth_mem (by omega)
    have hwr := hw _ (h4 _ hmem) (two_nth h2 hi).2
    have hat : ∀ j, j < sz → css.flatten[i * sz + j]? = (nth css i)[j]? := fun j hj => flat_at (sz := sz) css i j h4 (by omega) hj
    refine ⟨by rw [← Array.length_toList, hwr]; exact h4 _ hmem, ?_⟩
    rw [hwr]
    have hl := h4 _ hmem
    obtain ⟨cs0, e0, fr0, k1, _⟩ := cell_block (hcell (i * sz + 0) _ ((hat 0 hsz).trans (List.getElem?_eq_getElem (show 0 < (nth css i).length by omega))))
    refine ⟨cs0, e0, fr0, k1, fun j u hu => ?_⟩
    have hj : j < sz := by have := (List.getElem?_eq_some_iff.1 hu).1; omega
    obtain ⟨cs1, e1, fr1, k2, k3⟩ := cell_block (hcell (i * sz + j) u ((hat j hj).trans hu))
    rw [k1] at k2; cases k2
    exact ⟨by rw [Nat.add_assoc]; exact k3, (two_nth h2 hi).2 u (List.mem_of_getElem? hu)⟩
set_option maxRecDepth 100000 in
theorem open_depVF : ∀ (fuel : Nat) (cs : List Value) (x : DataW H × List MemPlace), DataW.trod enc Tryz.prog W 0 (fun _ => true) true fuel 24 cs = some x → ∃ d : DepT, (VR (ofF (allF W)) (depX d) (.agg cs.toArray) ∧ ∀ c ∈ cs, c.oneCell' = true) ∧ d.size ≤ Rows.uptoBulk x.1 := by
  intro fuel
  induction fuel using Nat.strongRecOn with
  | ind fuel ih =>
  intro cs x h
  obtain ⟨xs, n, hf, rfl, hl, hxs, hfs⟩ := DataW.trod_struct Tryz.underlying24 h
  have hl' : cs.length = 5 := hl.trans (by kernel_rfl)
  match cs, hl' with
  | [c0, c1, c2, c3, c4], _ =>
  match xs, hxs with
  | [y0, y1, y2, y3, y4], _ =>
  have g0 : DataW.trod enc Tryz.prog W 0 (fun _ => true) true n 3 (([c0, c1, c2, c3, c4].drop 0).take (Tryz.prog.cellsOf 3)) = some y0 := hfs 0 _ rfl
  have g1 : DataW.trod enc Tryz.prog W 0 (fun _ => true) true n 9 (([c0, c1, c2, c3, c4].drop 1).take (Tryz.prog.cellsOf 9)) = some y1 := hfs 1 _ rfl
  have g2 : DataW.trod enc Tryz.prog W 0 (fun _ => true) true n 3 (([c0, c1, c2, c3, c4].drop 2).take (Tryz.prog.cellsOf 3)) = some y2 := hfs 2 _ rfl
  have g3 : DataW.trod enc Tryz.prog W 0 (fun _ => true) true n 9 (([c0, c1, c2, c3, c4].drop 3).take (Tryz.prog.cellsOf 9)) = some y3 := hfs 3 _ rfl
  have g4 : DataW.trod enc Tryz.prog W 0 (fun _ => true) true n 22 (([c0, c1, c2, c3, c4].drop 4).take (Tryz.prog.cellsOf 22)) = some y4 := hfs 4 _ rfl
  have k1 : Tryz.prog.cellsOf 3 = 1 := by kernel_rfl
  have k2 : Tryz.prog.cellsOf 9 = 1 := by kernel_rfl
  have k3 : Tryz.prog.cellsOf 22 = 1 := by kernel_rfl
  have k4 : Tryz.prog.cellsOf 24 = 5 := by kernel_rfl
  rw [k1] at g0 g2; rw [k2] at g1 g3; rw [k3] at g4
  simp only [List.drop_zero, List.drop_succ_cons, List.take_succ_cons, List.take_zero] at g0 g1 g2 g3 g4
  obtain ⟨k, e0, rfl, _⟩ := DataW.trod_int Tryz.underlying3 g0
  obtain ⟨nm, e1, rfl, _⟩ := DataW.trod_string Tryz.underlying9 g1
  obtain ⟨op, e2, rfl, _⟩ := DataW.trod_int Tryz.underlying3 g2
  obtain ⟨ev, e3, rfl, _⟩ := DataW.trod_string Tryz.underlying9 g3
  obtain ⟨v, l, e4, hr, hb⟩ := open_listV (f := depX) (size := DepT.size) Tryz.underlying22 k4 (by omega) (fun cs => .agg cs.toArray) (fun cs' _ _ => by simp [Value.cells]) (fun n' cs' y hn _ hy => ih n' (by omega) cs' y hy) g4
  have hsl : v.oneCell' = true := by
    have hr' := hr
    unfold rowOf at hr'
    simp only [VR] at hr'
    obtain ⟨u, _, h0 | ⟨b, o, c, rfl, _⟩⟩ := hr'
    · rcases h0 with ⟨_, rfl | ⟨a, c, rfl⟩⟩ <;> rfl
    · rfl
  simp only [List.cons.injEq, and_true] at e0 e1 e2 e3 e4
  subst e0 e1 e2 e3 e4
  refine ⟨.mk k nm.data.toList op ev.data.toList l, ⟨?_, ?_⟩, ?_⟩
  · refine depX_shut _ _ _ ?_
    simp only [VR]
    refine ⟨_, .cons (by simp only [VR]; rfl) (.cons (by simp only [VR]; exact S_of nm) (.cons (by simp only [VR]; rfl) (.cons (by simp only [VR]; exact S_of ev) (.cons hr .nil)))), rfl⟩
  · intro c hc
    simp only [List.mem_cons, List.not_mem_nil, or_false] at hc
    rcases hc with rfl | rfl | rfl | rfl | rfl
    · rfl
    · rfl
    · rfl
    · rfl
    · exact hsl
  · rw [argsSize_sum] at hb
    simp only [DepT.size, List.map_cons, List.map_nil, Rows.uptoBulk, Rows.uptoBulkAll]
    omega
set_option maxRecDepth 100000 in
theorem open_depV {r : Reach} {b0 : Nat} {v : Value} {d : DataW H} {p : List MemPlace} (hv : Value.okWide Tryz.prog W r b0 24 v) (h : DataW.Trod enc Tryz.prog W 0 (fun _ => true) true 24 v d p) :
    ∃ t : DepT, VR (ofF (allF W)) (depX t) v ∧ t.size ≤ Rows.uptoBulk d := by
  obtain ⟨cs, rfl, _⟩ := Go.WideShapes.okWide_struct Tryz.underlying24 hv
  obtain ⟨fuel, hf⟩ := h
  obtain ⟨t, h1, h2⟩ := open_depVF fuel _ _ hf
  exact ⟨t, by have := h1.1; simpa [Value.cells] using this, h2⟩
end
theorem FnV.calls {P : Program} {f : Nat} {al : List AV} {W : World} {vs : List Value} (h : FnV P f al (.bool true)) (hv : VRl (ofF (allF W)) al vs) : Calls P f vs.toArray W (Ret fun v w' => v = .bool true ∧ Below W.heap.size W w') :=
  (h (allF W) W vs (fro_all W) hv).mono fun e w' hh => by
    obtain ⟨v, he, hb, F', _, _, _, k⟩ := hh
    simp only [VR] at k
    exact ⟨v, he, k, hb⟩
end Sv
end Go.Proofs.YtaegacblpbbndaaGreatDoor
end
