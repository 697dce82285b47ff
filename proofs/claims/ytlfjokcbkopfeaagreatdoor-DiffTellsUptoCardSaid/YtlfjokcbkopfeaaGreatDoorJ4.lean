/- The texts OwnP, SortI, IdsV, SetP, IdsM, Ref1, Evr7, DiffP, S39, Diff1, Diff2, Diff3, Ref3a, Ref3b, Ref3c, NamP, Ref7b, Ref20, Diff6, OpenD, OpenV of the proof, joined. Each says at its theorems what it proves. -/
import Derived.Test.YtlfjokcbkopfeaaGreatDoorJ3
import Derived.Shelf.Slices.In.SortNone
import Derived.Test.YtlfjokcbkopfeaaGreatDoorRows
import Derived.ChangeArms
import Derived.WideShapes
set_option linter.unusedSimpArgs false
set_option linter.unusedVariables false
section
namespace Go.Proofs.YtlfjokcbkopfeaaGreatDoor
open Go Go.RowKit
set_option linter.unusedSimpArgs false
set_option linter.unusedVariables false
namespace Sv
theorem Q6b {p : PkgT} (h : C0 p = 0) : Bh p.name = true ∧ Bz p.evr = 0 ∧ El p = true ∧ Hk p.files = true := by
  unfold C0 at h
  split at h
  · cases h
  · split at h
    · cases h
    · split at h
      · cases h
      · split at h
        · cases h
        · split at h
          · cases h
          · split at h
            · cases h
            · exact ⟨by simp_all, by omega, by simp_all, by simp_all⟩
theorem X2h (k : Int) : ∀ l : List RepoT, ∀ q ∈ (Ao k l).1.all, C0 q.1 = 0 := by
  refine Qn (C := fun l => ∀ q ∈ (Ao k l).1.all, C0 q.1 = 0) (fun q hq => by cases hq) fun l r ih => ?_
  rw [Tf]
  intro q hq
  by_cases he : B8 (Ao k l).1 r = 0
  · have e1 : B4 (Ao k l).1 r = ⟨(Ao k l).1.kind, (Ao k l).1.repos ++ [r], As (Ao k l).1 r r.pkgs.length⟩ := if_pos he
    have hq : q ∈ As (Ao k l).1 r r.pkgs.length := by rw [e1] at hq; exact hq
    unfold As at hq
    rw [List.take_length] at hq
    rcases List.mem_append.1 hq with h | h
    · exact ih q h
    · obtain ⟨p, hp, rfl⟩ := List.mem_map.1 h
      show C0 p = 0
      have hf : Iq r.pkgs = 0 := by
        unfold B8 at he
        split at he
        · cases he
        · split at he
          · cases he
          · split at he
            · cases he
            · exact he
      unfold Iq at hf
      split at hf
      · rename_i x hx
        have := List.find?_some hx
        simp at this
        exact absurd hf this
      · rename_i hn
        have := List.find?_eq_none.1 hn p hp
        simpa using this
  · rw [show B4 (Ao k l).1 r = (Ao k l).1 from if_neg he] at hq
    exact ih q hq
end Sv
end Go.Proofs.YtlfjokcbkopfeaaGreatDoor
end
section
namespace Go.Proofs.YtlfjokcbkopfeaaGreatDoor
open Go Go.RowKit
set_option linter.unusedSimpArgs false
set_option linter.unusedVariables false
namespace Sv
def Ch (l : List Int) : List Int := l.mergeSort fun x y => decide (x ≤ y)
theorem Q3y : FnV Tryz.prog 126 [.nils] (.tup []) := by
  intro F w vs hF hv
  obtain ⟨v, rfl, h1⟩ := hv.single_inv
  simp only [VR] at h1; subst h1
  refine (Go.Proofs.Any.slices_Sort_int_none Tryz.lays189 none 0 w).mono ?_
  rintro e w' ⟨he, rfl⟩
  exact ⟨_, he, Below.refl _ _, F, fun _ _ e => e, hF, fun _ _ e => .inl e, by simp only [VR]; exact ⟨[], .nil, rfl⟩⟩
theorem X13 : FnV Tryz.prog 118 [.nils] .nils := by
  intro F w vs hF hv
  obtain ⟨v, rfl, h1⟩ := hv.single_inv
  simp only [VR] at h1; subst h1
  refine (Tryz.slices_Compact_int_empty none 0 w).mono ?_
  rintro e w' ⟨he, rfl⟩
  exact ⟨_, he, Below.refl _ _, F, fun _ _ e => e, hF, fun _ _ e => .inl e, by simp only [VR]⟩
def B5 (l : List Int) : List Int := Lib.compact (Ch l)
theorem Ur (l : List Int) : (Ch l).length = l.length := by simp [Ch]
theorem Hv (l : List Int) : (B5 l).length ≤ l.length := by have := S6 (Ch l); rw [Ur] at this; exact this
def T0 (P : Program) (f : Nat) (es es' : List AV) (e sz : Nat) : Prop := ∀ (B : Bas) (φ : Phi) (h : AH) (w : World) (b : Nat) (v : Value), Rel B φ h w → Be b h = some (.grow es e sz) → φ.s b = some v →
  Calls P f #[v] w (Ret fun u w' => u = .tuple #[] ∧ Rel B φ (B6 b (.grow es' e sz) (D2 b h)) w')
theorem X3y {P : Program} {B : Bas} {F : Cx} {n : Nat} {K : Exit → St → Prop} {x : St} {ops : Array Oper} {rest : List Oper} {f : FuncId} {ar : Array Operand} {ts : Array TypeId} {ty : TypeId} {ps : String} {dst : Option Tmp} {s' : Fr} {af : Array Edge} {g : Option (Nat × Bool)} {b e sz : Nat} {es es' : List AV}
    (hg : C5 ops x.s g = true) (he : Am P f) (ha : Dr (evA x.s) ar.toList = some [.own b]) (hb : Be b x.h = some (.grow es e sz)) (hf : T0 P f es es' e sz)
    (hp : B1 n dst (.tup []) x.s = some s') (next : SO P n ops rest B F K ⟨s', B6 b (.grow es' e sz) (D2 b x.h), x.nx⟩) : SO P n ops (⟨dst, .call { callee := .value (.func f), args := ar, argTypes := ts }, ty, ps, af, g⟩ :: rest) B F K x := by
  intro φ σ w hx
  have hv := E5 hx.fr.ev ha
  obtain ⟨v, hv0, hv1⟩ := hv.single_inv
  simp only [VR] at hv1
  have hc := hf B φ x.h w b v hx.rel hb hv1.1
  refine Fk (De hx.fr hg) he (by rw [hv0]; exact hc) ?_
  rintro u w' ⟨rfl, hr⟩
  exact next φ _ w' ⟨hx.fr.put hp (by simp only [VR]; exact ⟨[], .nil, rfl⟩), hr, hx.dom, hx.old, hx.new, hx.base⟩
theorem Q3z (l : List Int) (hl : l.length ≤ 4611686018427) : T0 Tryz.prog 126 (l.map (AV.int .i64)) ((Ch l).map (AV.int .i64)) 3 1 := by
  intro B φ h w b v hr hb hv1
  have hob := hr.obj b _ hb
  obtain ⟨v0, us, q1, q2, q3, q4⟩ := hob
  rw [hv1] at q1; cases q1
  have hu := Rz q3
  subst hu
  rw [O1, List.length_map] at q2
  have ht : Turn φ φ b := ⟨fun _ => rfl, fun _ _ => rfl, fun _ _ e => e⟩
  rcases q2.2 with ⟨rfl, hn⟩ | ⟨g, cap, cur, rfl, hg1, hg2, hg3, hg4, hg5, hg6⟩
  · have hl0 : l = [] := List.length_eq_zero_iff.1 hn
    subst hl0
    refine (Go.Proofs.Any.slices_Sort_int_none Tryz.lays189 none 0 w).mono ?_
    rintro e w' ⟨he, rfl⟩
    exact ⟨_, he, rfl, Rel.grown hr hb hv1 ht hv1 rfl ⟨rfl, rfl, rfl, Nat.le_refl _, fun _ _ _ => rfl⟩ (.inl rfl) (fun k hk => by cases hk) (by have := hr.obj b _ hb; simpa [Ch] using this)⟩
  · have hh : Go.Sort.Holds (Value.int .i64) w g 0 l.toArray := holds_of_blockI hg2 (by simpa using hg6)
    refine (Tryz.slices_Sort_int g 0 cap l w hh (Ev hg2) (by omega)).mono ?_
    rintro e w' ⟨he, n, os, rfl⟩
    have hgr := grownBy_sortedI (w := w) (g := g) (n := n) (os := os) (Ch l).toArray
    exact ⟨_, he, rfl, Rel.grown (es' := (Ch l).map (AV.int .i64)) hr hb hv1 ht hv1 rfl hgr (.inl rfl) (fun k hk => by cases hk; exact Nat.lt_of_lt_of_le (Ev hg2) hgr.size)
      ⟨_, (Ch l).map (Value.int .i64), hv1, by
        rw [O1, List.length_map]
        have := ownsRow_sortedI (n := n) (os := os) (base := 0) (ts := Ch l) (ss := l) (by simp [Ch]) hg1 hg2 hg3 hg4 (by simpa using hg5)
        rw [show (Ch l).length = l.length by simp [Ch]]
        exact this, P7 _, Q0x _⟩⟩
end Sv
end Go.Proofs.YtlfjokcbkopfeaaGreatDoor
end
section
namespace Go.Proofs.YtlfjokcbkopfeaaGreatDoor
open Go Go.RowKit
namespace Sv
attribute [local irreducible] SW SO Bg
theorem X1d : Am Tryz.prog 125 := Av Tryz.func125 (by kernel_rfl) rfl
theorem Q0c : Am Tryz.prog 126 := Av Tryz.func126 (by kernel_rfl) rfl
set_option maxHeartbeats 400000 in
set_option maxRecDepth 100000 in
theorem R1 (l : List Int) (hl : l.length ≤ 4611686018) :
  FnV Tryz.prog 72 [(Ap l)] (Ap (B5 l)) := by
 refine A1 [.tmp 2] Tryz.func72 rfl Tryz.ntmps72 rfl rfl (fun B F hF => ?_)
 refine Aa [] [0] ?_
 refine Ab ?_
 refine Ar ?_
 refine Bv 1 0 [] [4] [] hk0 v0 c0 ?_
 refine M8 [.tmp 2] (al := [(Ap l)]) (s0 := [(4, (Ap l))]) (by kernel_rfl) (by exact X1d) (by kernel_rfl) Tryz.func125 rfl Tryz.ntmps125 rfl (by kernel_rfl) (by kernel_rfl) (fun F1 hF1 hle1 => ?_)
 refine Aa [] [0] ?_
 refine Ab ?_
 refine Ab ?_
 refine Ar ?_
 refine Bv 1 0 [] [0, 3] [] hk0 v0 c0 ?_
 refine Ts (G := Jb (Ap l)) (sz := 1) (m := l.length) (e := 3) (by kernel_rfl) (by kernel_rfl) (by kernel_rfl) (by kernel_rfl) (fun nq1_1 => ⟨[(0, (Ap l)), (3, (Ap l)), (4, (.bool nq1_1))], by kernel_rfl, fun hnq1_1 => ?_⟩)
 refine B2 ?_
 refine A3 (q := nq1_1) (by kernel_rfl) (fun c1 => ?_) (fun c1 => ?_)
 ·try simp only [Bool.and_eq_true, Bool.or_eq_true, Bool.and_eq_false_iff, Bool.or_eq_false_iff, Bool.not_eq_true', Bool.not_eq_false', decide_eq_true_eq, decide_eq_false_iff_not] at c1
  refine Aa [] [2] ?_
  refine Af ?_
  refine Jq (.inl rfl) (al := [.nils]) (s' := [(4, (Ap l)), (5, .nils)]) (by kernel_rfl) (by kernel_rfl) ?_
  refine Aw 2 [] [3] [] hk0 v0 c0 ?_
  refine Ad [] [3] [] (hk 1 Q0c Q3y <| hk0) v0 c0 ?_
  refine Ad [] [2] [] (hk 1 Ss X13 <| hk0) v0 c0 ?_
  refine Af ?_
  refine RK wR [.nils] ?_
  simp only [Ah]
  have h0 : l = [] := List.length_eq_zero_iff.1 (by have := hnq1_1 (by simp_all); simp_all)
  subst h0
  rw [show B5 [] = [] from List.length_eq_zero_iff.1 (Nat.le_zero.1 (Hv []))]
  exact (Imp.nil (f := AV.int .i64)).same
 ·try simp only [Bool.and_eq_true, Bool.or_eq_true, Bool.and_eq_false_iff, Bool.or_eq_false_iff, Bool.not_eq_true', Bool.not_eq_false', decide_eq_true_eq, decide_eq_false_iff_not] at c1
  refine Ag ?_
  refine Ad [] [2] [] hk0 v0 (cc 2 (p := ((([] : List AV).length + l.length) * 8 ≤ 140737488355328)) (by first | omega | (simp; omega) | (simp; done) | (intros; simp_all; omega) | (intros; simp_all; done)) <| c0) ?_
  refine Af ?_
  refine Jq (.inl rfl) (al := [(.own 1)]) (s' := [(4, (Ap l)), (5, (.own 1))]) (by kernel_rfl) (by kernel_rfl) ?_
  refine Aw 2 [] [3] [] hk0 v0 c0 ?_
  refine Ab ?_
  refine Ar ?_
  refine Bv 1 0 [] [3, 6] [] hk0 v0 c0 ?_
  refine X3y (s' := [(3, (.own 1)), (6, (.own 1)), (7, (.tup []))]) (b := 1) (e := 3) (sz := 1) (es := ([] : List AV) ++ ((List.range l.length).map (fun kx => ((.int .i64 (nth l kx)) : AV)))) (es' := ((Ch l).map (AV.int .i64))) (by kernel_rfl) (by exact Q0c) (by kernel_rfl) (by kernel_rfl) ((show T0 _ _ (([] : List AV) ++ ((List.range l.length).map (fun kx => ((.int .i64 (nth l kx)) : AV)))) _ _ _ from (show l.map (AV.int .i64) = (([] : List AV) ++ ((List.range l.length).map (fun kx => ((.int .i64 (nth l kx)) : AV)))) from by simp [Q5]) ▸ Q3z l (by omega))) (by kernel_rfl) ?_
  refine B2 ?_
  refine Ab ?_
  refine Ar ?_
  refine Bv 1 0 [] [8] [] hk0 v0 c0 ?_
  refine Lo [1] (al := [(.own 1)]) (al' := [(.own 0)]) (r := (.own 0)) (r' := (.own 1)) (s' := [(8, Bl), (9, (.own 1))]) (H := [(0, (.grow ((Ch l).map (AV.int .i64)) 3 1))]) (H' := [(0, (.grow ((Lib.compact (Ch l)).map (AV.int .i64)) 3 1))]) (h2 := [(1, (.grow ((Lib.compact (Ch l)).map (AV.int .i64)) 3 1))]) (by kernel_rfl) (by exact Ss) (by kernel_rfl) (by kernel_rfl) (by kernel_rfl) (by kernel_rfl) (by kernel_rfl) (Q0v (Ch l) (by rw [Ur]; omega)) (by kernel_rfl) (by kernel_rfl) (by kernel_rfl) ?_
  refine Aw 2 [] [2] [] hk0 v0 c0 ?_
  refine Af ?_
  refine RK wR [(.row 1 ((Lib.compact (Ch l)).map (AV.int .i64)).length (fun ix => ((Lib.compact (Ch l)).map (AV.int .i64)).getD ix Bl))] ?_
  simp only [Ah]
  exact Same.grown (f := AV.int .i64) (l := B5 l) rfl
end Sv
end Go.Proofs.YtlfjokcbkopfeaaGreatDoor
end
section
namespace Go.Proofs.YtlfjokcbkopfeaaGreatDoor
open Go Go.RowKit
namespace Sv
theorem Ny : ∀ {a b : List Int}, Cu a → Cu b → (∀ x, x ∈ a ↔ x ∈ b) → a = b
  | [], [], _, _, _ => rfl
  | [], y :: b, _, _, h => by have := (h y).2 (by simp); cases this
  | x :: a, [], _, _, h => by have := (h x).1 (by simp); cases this
  | x :: a, y :: b, ha, hb, h => by
    have e : x = y := by
      rcases List.mem_cons.1 ((h x).1 (by simp)) with e | e
      · exact e
      · rcases List.mem_cons.1 ((h y).2 (by simp)) with e' | e'
        · exact e'.symm
        · have h1 := hb.1 x e
          have h2 := ha.1 y e'
          omega
    subst e
    rw [Ny ha.2 hb.2 fun z => ?_]
    constructor
    · intro hz
      rcases List.mem_cons.1 ((h z).1 (by simp [hz])) with e | e
      · subst e; have := ha.1 z hz; omega
      · exact e
    · intro hz
      rcases List.mem_cons.1 ((h z).2 (by simp [hz])) with e | e
      · subst e; have := hb.1 z hz; omega
      · exact e
theorem U7 {x : Int} : ∀ {l : List Int}, Cu l → (∀ y ∈ l, y < x) → Cu (l ++ [x])
  | [], _, _ => ⟨by simp, trivial⟩
  | z :: l, h, k => ⟨fun y hy => by
      rcases List.mem_append.1 hy with hy | hy
      · exact h.1 y hy
      · rw [List.mem_singleton] at hy; subst hy; exact k z (by simp), U7 h.2 fun y hy => k y (by simp [hy])⟩
theorem Q0u (d : Array Int) (h : ∀ i, i + 1 < d.size → d[i]! ≤ d[i + 1]!) : ∀ m, m ≤ d.size → Cu (Lib.compactUpTo d m) ∧ (∀ x, x ∈ Lib.compactUpTo d m ↔ ∃ i, i < m ∧ x = d[i]!) ∧ ∀ x ∈ Lib.compactUpTo d m, x ≤ d[m - 1]! := by
  intro m
  induction m with
  | zero => intro _; exact ⟨trivial, fun x => by simp [Lib.compactUpTo], fun x hx => by simp [Lib.compactUpTo] at hx⟩
  | succ m ih =>
    intro hm
    obtain ⟨i1, i2, i3⟩ := ih (by omega)
    have mono : ∀ x ∈ Lib.compactUpTo d m, x ≤ d[m]! := fun x hx => by
      have h1 := i3 x hx
      by_cases h0 : m = 0
      · subst h0; simp [Lib.compactUpTo] at hx
      · have := h (m - 1) (by omega)
        rw [show m - 1 + 1 = m by omega] at this; omega
    rw [Lib.compactUpTo_succ]
    by_cases hk : Lib.keeps d m = true
    · rw [if_pos hk]
      refine ⟨U7 i1 fun y hy => ?_, fun x => ?_, fun x hx => ?_⟩
      · have h1 := mono y hy
        have h2 := i3 y hy
        by_cases h0 : m = 0
        · subst h0; simp [Lib.compactUpTo] at hy
        · have h3 := h (m - 1) (by omega)
          rw [show m - 1 + 1 = m by omega] at h3
          have h4 : d[m]! ≠ d[m - 1]! := by
            simp only [Lib.keeps, decide_eq_true_eq] at hk
            rcases hk with hk | hk
            · exact absurd hk h0
            · exact hk
          omega
      · rw [List.mem_append, i2, List.mem_singleton]
        constructor
        · rintro (⟨i, hi, rfl⟩ | rfl)
          · exact ⟨i, by omega, rfl⟩
          · exact ⟨m, by omega, rfl⟩
        · rintro ⟨i, hi, rfl⟩
          by_cases e : i = m
          · subst e; exact .inr rfl
          · exact .inl ⟨i, by omega, rfl⟩
      · rw [Nat.add_sub_cancel]
        rcases List.mem_append.1 hx with hx | hx
        · exact mono x hx
        · rw [List.mem_singleton] at hx; subst hx; exact Int.le_refl _
    · rw [if_neg hk, List.append_nil]
      have hk' : ¬ m = 0 ∧ d[m]! = d[m - 1]! := by
        simp only [Lib.keeps, decide_eq_true_eq, not_or, ne_eq, Decidable.not_not] at hk
        exact hk
      refine ⟨i1, fun x => ?_, fun x hx => ?_⟩
      · rw [i2]
        constructor
        · rintro ⟨i, hi, rfl⟩
          exact ⟨i, by omega, rfl⟩
        · rintro ⟨i, hi, rfl⟩
          by_cases e : i = m
          · subst e; exact ⟨i - 1, by omega, hk'.2⟩
          · exact ⟨i, by omega, rfl⟩
      · rw [Nat.add_sub_cancel]; exact mono x hx
theorem Uq (l : List Int) (i : Nat) (h : i + 1 < (Ch l).toArray.size) : (Ch l).toArray[i]! ≤ (Ch l).toArray[i + 1]! := by
  have p : (Ch l).Pairwise fun x y => decide (x ≤ y) = true := List.pairwise_mergeSort (fun a b c h1 h2 => by simp only [decide_eq_true_eq] at *; omega) (fun a b => by simp only [Bool.or_eq_true, decide_eq_true_eq]; omega) l
  have h' : i + 1 < (Ch l).length := by simpa using h
  have := List.pairwise_iff_getElem.1 p i (i + 1) (by omega) h' (by omega)
  simpa [getElem!_pos, h', show i < (Ch l).length by omega] using this
theorem Hu (l : List Int) : Cu (B5 l) := (Q0u (Ch l).toArray (Uq l) (Ch l).length (by simp)).1
theorem Km {l : List Int} {x : Int} : x ∈ B5 l ↔ x ∈ l := by
  have h := (Q0u (Ch l).toArray (Uq l) (Ch l).length (by simp)).2.1 x
  have e : x ∈ B5 l ↔ x ∈ Lib.compactUpTo (Ch l).toArray (Ch l).length := Iff.rfl
  rw [e, h]
  have m : x ∈ Ch l ↔ x ∈ l := by unfold Ch; exact List.mem_mergeSort
  rw [← m]
  constructor
  · rintro ⟨i, hi, rfl⟩
    simp [getElem!_pos, hi]
  · intro hx
    obtain ⟨i, hi, rfl⟩ := List.getElem_of_mem hx
    exact ⟨i, hi, by simp [getElem!_pos, hi]⟩
theorem Kl {l k : List Int} (hk : Cu k) (h : ∀ x, x ∈ k ↔ x ∈ l) : k = B5 l := Ny hk (Hu l) fun x => by rw [h, Km]
theorem Qr {l : List Int} (h : Cu l) : B5 l = l := (Kl h fun _ => Iff.rfl).symm
theorem N7 {n : Int} {l : List Int} : Cv n (B5 l) = B5 (l ++ [n]) := Kl (Vv (Hu l)) fun x => by rw [put1_mem, Km, List.mem_append, List.mem_singleton, or_comm]
theorem Q4b : B5 [] = [] := Qr trivial
def Bt (x y : List Int) : Bool := decide (y = []) || (!decide (x = []) && decide (nth x 0 ≤ nth y 0))
def Dz (p : Bool → Bool → Bool) : Nat → List Int → List Int → List Int
  | 0, _, _ => []
  | n + 1, x, y => if x = [] ∧ y = [] then [] else
    (if p (Bt x y) (Bt y x) then [if Bt y x = true then nth y 0 else nth x 0] else []) ++ Dz p n (if Bt x y = true then x.drop 1 else x) (if Bt y x = true then y.drop 1 else y)
theorem Q7r {q : Bool} {h : Int} {r : List Int} (hr : Cu r) (hl : ∀ z ∈ r, h < z) : Cu ((if q = true then [h] else []) ++ r) := by
  cases q
  · exact hr
  · exact ⟨hl, hr⟩
theorem Q7t {p : Bool → Bool → Bool} {u v : Bool} {h : Int} {x y x1 y1 r : List Int} (hx : ∀ z, z ∈ x ↔ (u = true ∧ z = h) ∨ z ∈ x1) (hy : ∀ z, z ∈ y ↔ (v = true ∧ z = h) ∨ z ∈ y1) (h1 : ∀ z ∈ x1, h < z) (h2 : ∀ z ∈ y1, h < z) (huv : u = true ∨ v = true)
    (hr : ∀ z, z ∈ r ↔ (z ∈ x1 ∨ z ∈ y1) ∧ p (decide (z ∈ x1)) (decide (z ∈ y1)) = true) (z : Int) : z ∈ (if p u v = true then [h] else []) ++ r ↔ (z ∈ x ∨ z ∈ y) ∧ p (decide (z ∈ x)) (decide (z ∈ y)) = true := by
  rw [List.mem_append, hr]
  by_cases e : z = h
  · subst e
    have n1 : ¬ z ∈ x1 := fun q => by have := h1 z q; omega
    have n2 : ¬ z ∈ y1 := fun q => by have := h2 z q; omega
    have e1 : decide (z ∈ x) = u := by have := hx z; cases u <;> simp_all
    have e2 : decide (z ∈ y) = v := by have := hy z; cases v <;> simp_all
    rw [e1, e2]
    have hm : z ∈ x ∨ z ∈ y := by
      rcases huv with q | q
      · exact .inl ((hx z).2 (.inl ⟨q, rfl⟩))
      · exact .inr ((hy z).2 (.inl ⟨q, rfl⟩))
    by_cases q : p u v = true
    · simp [q, hm]
    · simp [q, n1, n2]
  · have e1 : z ∈ x ↔ z ∈ x1 := by rw [hx]; simp [e]
    have e2 : z ∈ y ↔ z ∈ y1 := by rw [hy]; simp [e]
    have n : ¬ z ∈ (if p u v = true then [h] else []) := by split <;> simp [e]
    simp only [e1, e2, n, false_or]
theorem Xg {p : Bool → Bool → Bool} : ∀ (n : Nat) (x y : List Int), x.length + y.length < n → Cu x → Cu y → Cu (Dz p n x y) ∧ ∀ z, z ∈ Dz p n x y ↔ (z ∈ x ∨ z ∈ y) ∧ p (decide (z ∈ x)) (decide (z ∈ y)) = true := by
  intro n
  induction n with
  | zero => intro x y h; omega
  | succ n ih =>
    intro x y h hx hy
    have go : ∀ (u v : Bool) (a : Int) (x1 y1 : List Int), x1.length + y1.length < n → Cu x1 → Cu y1 → (∀ z, z ∈ x ↔ (u = true ∧ z = a) ∨ z ∈ x1) → (∀ z, z ∈ y ↔ (v = true ∧ z = a) ∨ z ∈ y1) → (∀ z ∈ x1, a < z) → (∀ z ∈ y1, a < z) → (u = true ∨ v = true) →
        Dz p (n + 1) x y = (if p u v = true then [a] else []) ++ Dz p n x1 y1 → Cu (Dz p (n + 1) x y) ∧ ∀ z, z ∈ Dz p (n + 1) x y ↔ (z ∈ x ∨ z ∈ y) ∧ p (decide (z ∈ x)) (decide (z ∈ y)) = true := by
      intro u v a x1 y1 hl r1 r2 q1 q2 q3 q4 q5 e
      obtain ⟨i1, i2⟩ := ih x1 y1 hl r1 r2
      rw [e]
      refine ⟨Q7r i1 fun z hz => ?_, Q7t q1 q2 q3 q4 q5 i2⟩
      rcases ((i2 z).1 hz).1 with k | k
      · exact q3 z k
      · exact q4 z k
    cases x with
    | nil =>
      cases y with
      | nil => exact ⟨trivial, fun z => by simp [Dz]⟩
      | cons b y => exact go false true b [] y (by simp at h ⊢; omega) trivial hy.2 (by simp) (by simp) (by simp) hy.1 (.inr rfl) (by simp [Dz, Bt, nth])
    | cons a x =>
      cases y with
      | nil => exact go true false a x [] (by simp at h ⊢; omega) hx.2 trivial (by simp) (by simp) hx.1 (by simp) (.inl rfl) (by simp [Dz, Bt, nth])
      | cons b y =>
        simp only [List.length_cons] at h
        rcases Int.lt_trichotomy a b with q | q | q
        · exact go true false a x (b :: y) (by simp; omega) hx.2 hy (by simp) (by simp) hx.1 (fun z hz => by
            rcases List.mem_cons.1 hz with rfl | hz
            · exact q
            · have := hy.1 z hz; omega) (.inl rfl) (by simp [Dz, Bt, nth, show a ≤ b by omega, show ¬ b ≤ a by omega])
        · subst q
          exact go true true a x y (by omega) hx.2 hy.2 (by simp) (by simp) hx.1 hy.1 (.inl rfl) (by simp [Dz, Bt, nth])
        · exact go false true b (a :: x) y (by simp; omega) hx hy.2 (by simp) (by simp) (fun z hz => by
            rcases List.mem_cons.1 hz with rfl | hz
            · exact q
            · have := hx.1 z hz; omega) hy.1 (.inr rfl) (by simp [Dz, Bt, nth, show ¬ a ≤ b by omega, show b ≤ a by omega])
def Jl (p : Bool → Bool → Bool) (a b : List Int) : List Int := Dz p ((B5 a).length + (B5 b).length + 1) (B5 a) (B5 b)
theorem Xi {p : Bool → Bool → Bool} {a b : List Int} {z : Int} : z ∈ Jl p a b ↔ (z ∈ a ∨ z ∈ b) ∧ p (decide (z ∈ a)) (decide (z ∈ b)) = true := by
  have := (Xg (p := p) _ (B5 a) (B5 b) (Nat.lt_succ_self _) (Hu a) (Hu b)).2 z
  simp only [Km] at this
  exact this
theorem Xh {p : Bool → Bool → Bool} {a b : List Int} : Cu (Jl p a b) := (Xg _ (B5 a) (B5 b) (Nat.lt_succ_self _) (Hu a) (Hu b)).1
def Ac (a b : List Int) : List Int := B5 (a.filter fun z => !decide (z ∈ b))
def A5 (a b : List Int) : List Int := B5 (a ++ b)
theorem Q7p (a b : List Int) : Jl (fun _ v => !v) a b = Ac a b := Kl Xh fun z => by rw [Xi, List.mem_filter]; simp only [Bool.not_eq_true', decide_eq_false_iff_not]; exact ⟨fun h => ⟨h.1.resolve_right h.2, h.2⟩, fun h => ⟨.inl h.1, h.2⟩⟩
theorem Q26 (a b : List Int) : Jl (fun _ _ => true) a b = A5 a b := Kl Xh fun z => by rw [Xi, List.mem_append]; simp
theorem minusZ_mem {a b : List Int} {z : Int} : z ∈ Ac a b ↔ z ∈ a ∧ ¬ z ∈ b := by unfold Ac; rw [Km, List.mem_filter]; simp
theorem unionZ_mem {a b : List Int} {z : Int} : z ∈ A5 a b ↔ z ∈ a ∨ z ∈ b := by unfold A5; rw [Km, List.mem_append]
theorem Q7o (a b : List Int) : Cu (Ac a b) := Hu _
theorem P8 (a b : List Int) : Cu (A5 a b) := Hu _
end Sv
end Go.Proofs.YtlfjokcbkopfeaaGreatDoor
end
section
namespace Go.Proofs.YtlfjokcbkopfeaaGreatDoor
open Go Go.RowKit
namespace Sv
attribute [local irreducible] SW SO Bg
theorem Ze : Am Tryz.prog 69 := Av Tryz.func69 (by kernel_rfl) rfl
theorem Si : Am Tryz.prog 72 := Av Tryz.func72 (by kernel_rfl) rfl
theorem Sm : Am Tryz.prog 24 := Av Tryz.func24 (by kernel_rfl) rfl
theorem Zd : Am Tryz.prog 73 := Av Tryz.func73 (by kernel_rfl) rfl
theorem Q90 : Am Tryz.prog 71 := Av Tryz.func71 (by kernel_rfl) rfl
theorem X1c : Am Tryz.prog 127 := Av Tryz.func127 (by kernel_rfl) rfl
theorem Yv (x y : List Int) : (decide ((y.length : Int) = 0) || (decide (0 < (x.length : Int)) && decide (nth x 0 ≤ nth y 0))) = Bt x y := by
 unfold Bt
 cases x <;> cases y <;> simp
 all_goals omega
theorem R8 {x y : List Int} (h : ¬(x = [] ∧ y = [])) (k : Bt x y = true) : 1 ≤ x.length := by
 cases x <;> cases y <;> simp_all [Bt]
theorem Q88 {x y : List Int} (h : ¬(x = [] ∧ y = [])) (k : Bt x y = false) : Bt y x = true := by
 cases x <;> cases y <;> simp_all [Bt]; omega
theorem Kz {p : Bool → Bool → Bool} {g : Nat} {x y : List Int} {u v : Bool} (hg : 1 ≤ g) (h : ¬(x = [] ∧ y = [])) (hu : Bt x y = u) (hv : Bt y x = v) :
  Dz p g x y = (if p u v = true then [if v = true then nth y 0 else nth x 0] else []) ++ Dz p (g - 1) (if u = true then x.drop 1 else x) (if v = true then y.drop 1 else y) := by
 obtain ⟨n, rfl⟩ : ∃ n, g = n + 1 := ⟨g - 1, by omega⟩
 rw [Dz, if_neg h, hu, hv]; rfl
theorem Q7s (p : Bool → Bool → Bool) (g : Nat) : Dz p g [] [] = [] := by cases g <;> rfl
theorem Su {x : List Int} {n : Nat} (h : 1 ≤ x.length ∧ n = x.length - 1) : Imp (.row 1 n (fun kx => .int .i64 (nth x (1 + kx)))) (Ap (x.drop 1)) := by
 obtain ⟨h1, rfl⟩ := h
 have e : x.length - 1 = (x.drop 1).length := by simp
 rw [e]
 exact Imp.row fun i hi => Imp.of_eq (by simp [nth, List.getElem?_drop, Nat.add_comm])
set_option maxHeartbeats 400000 in
set_option maxRecDepth 100000 in
theorem Q7q (a b : Bool) :
  FnV Tryz.prog 71 [(.bool a), (.bool b)] (.bool (!b)) := by
 refine A1 [.tmp 4] Tryz.func71 rfl Tryz.ntmps71 rfl rfl (fun B F hF => ?_)
 refine Aa [] [1] ?_
 refine Aa [] [4] ?_
 refine Af ?_
 refine RK wR [(.bool (!b))] ?_
 exact Same.of_eq (by first | rfl | (simp only [Ah]; simp_all))
set_option maxHeartbeats 400000 in
set_option maxRecDepth 100000 in
theorem Q27 (a b : Bool) :
  FnV Tryz.prog 127 [(.bool a), (.bool b)] (.bool true) := by
 refine A1 [.tmp 4] Tryz.func127 rfl Tryz.ntmps127 rfl rfl (fun B F hF => ?_)
 refine Aa [] [] ?_
 refine Aa [] [4] ?_
 refine Af ?_
 refine RK wR [(.bool true)] ?_
 exact Same.of_eq (by first | rfl | (simp only [Ah]; simp_all))
set_option maxHeartbeats 1000000 in
set_option maxRecDepth 100000 in
theorem Xf (a b : List Int) (q : AV) (p : Bool → Bool → Bool) (ha : a.length ≤ 4194304) (hb : b.length ≤ 4194304) (hq : ∀ u v, FunV Tryz.prog q [.bool u, .bool v] (.bool (p u v))) :
  FnV Tryz.prog 69 [(Ap a), (Ap b), (.clo q)] (Ap (Jl p a b)) := by
 have h1 := Hv a
 have h2 := Hv b
 refine A1 [.tmp 6] Tryz.func69 rfl Tryz.ntmps69 rfl rfl (fun B F hF => ?_)
 refine Aa [] [0, 1, 2] ?_
 refine Ad [] [0, 1, 2] [] (hk 1 Si (R1 a (by omega)) <| hk 3 Si (R1 b (by omega)) <| hk0) v0 c0 ?_
 refine Aa [] [0, 1, 2, 7] ?_
 refine Ab ?_
 refine A0 ?_
 refine Pw 3 1 7 (y := ⟨[(0, (Ap (B5 a))), (1, (Ap (B5 b))), (2, (.clo q)), (7, (.own 0))], [(0, (.grow [] 3 1))], 1⟩) (by kernel_rfl) (by kernel_rfl) ?_
 refine Bq (fun g y => ∃ (fu : Nat) (x k zs : List Int), x.length ≤ (B5 a).length ∧ k.length ≤ (B5 b).length ∧ x.length + k.length < fu ∧ zs.length + (x.length + k.length) ≤ (B5 a).length + (B5 b).length ∧ Dz p ((B5 a).length + (B5 b).length + 1) (B5 a) (B5 b) = zs ++ Dz p fu x k ∧ y = ⟨[(0, (Ap x)), (1, (Ap k)), (2, (.clo q)), (7, (.own 0))], [(0, (.grow (zs.map (AV.int .i64)) 3 1))], 1⟩ ∧ g = fu) [0, 1, 2, 7] 1 _ (by omega) ⟨(B5 a).length + (B5 b).length + 1, (B5 a), (B5 b), [], (by omega), (by omega), (by omega), (by simp), (by rfl), (by kernel_rfl), rfl⟩ ?_
 rintro g1 y1 ⟨fu, x, k, zs, f1_1, f1_2, f1_3, f1_4, f1_5, rfl, rfl⟩
 refine Ab ?_
 obtain ⟨b1, hb1⟩ : ∃ b, b = (decide (0 < (x.length : Int))) := ⟨_, rfl⟩
 refine Ad (CS := [(5, ((!b1) = true → (!b1) = true)), (6, ((!b1) = true → (!b1) = true)), (7, (b1 = false → (!b1) = true))]) [19, 20, 21] [0, 1, 2, 7, 22] [] hk0 (vk 4 18 (a := .bool (decide (0 < (x.length : Int)))) (b := .bool b1) (Imp.of_eq (by rw [hb1])) <| v0) (by refine cc _ ?_ <| cc _ ?_ <| cc _ ?_ c0 <;> first | omega | (simp; omega) | (simp; done) | (intros; simp_all; omega) | (intros; simp_all; done)) ?_
 refine A3 (q := b1 || (decide (0 < (k.length : Int)))) (by kernel_rfl) (fun c1 => ?_) (fun c1 => ?_)
 ·subst hb1
  try simp only [Bool.and_eq_true, Bool.or_eq_true, Bool.and_eq_false_iff, Bool.or_eq_false_iff, Bool.not_eq_true', Bool.not_eq_false', decide_eq_true_eq, decide_eq_false_iff_not] at c1
  have hne : ¬(x = [] ∧ k = []) := by rintro ⟨rfl, rfl⟩; simp at c1
  refine Ag ?_
  refine A0 ?_
  have qh1 : ((((!(decide ((k.length : Int) = 0))) && (decide (0 < (x.length : Int)))) = true → (((!(decide ((k.length : Int) = 0))) && (decide (0 < (x.length : Int)))) = true) ∧ (0 ≤ (0 : Int) ∧ 0 < k.length))) := by
   intro hq; simp only [Bool.and_eq_true, Bool.not_eq_true', decide_eq_false_iff_not, decide_eq_true_eq] at hq ⊢; omega
  refine Cn [27, 28, 29, 30, 31, 32, 33, 34, 35, 36, 37, 38] [0, 1, 2, 7, 8] [] hk0 (vk 17 39 (a := (.bool ((decide ((k.length : Int) = 0)) || ((decide (0 < (x.length : Int))) && (decide ((nth x 0) ≤ (nth k 0))))))) (b := (.bool (Bt x k))) (Imp.of_eq (congrArg AV.bool (Yv x k))) <| v0) (cc 5 (p := ((!(decide ((k.length : Int) = 0))) = true → (!(decide ((k.length : Int) = 0))) = true)) (by first | omega | (simp; omega) | (simp; done) | (intros; simp_all; omega) | (intros; simp_all; done)) <| cc 6 (p := ((!(decide ((k.length : Int) = 0))) = true → (!(decide ((k.length : Int) = 0))) = true)) (by first | omega | (simp; omega) | (simp; done) | (intros; simp_all; omega) | (intros; simp_all; done)) <| cc 7 (p := ((!(decide ((k.length : Int) = 0))) = true → (!(decide ((k.length : Int) = 0))) = true)) (by first | omega | (simp; omega) | (simp; done) | (intros; simp_all; omega) | (intros; simp_all; done)) <| cc 9 (p := (((!(decide ((k.length : Int) = 0))) && (decide (0 < (x.length : Int)))) = true → (((!(decide ((k.length : Int) = 0))) && (decide (0 < (x.length : Int)))) = true) ∧ (0 ≤ (0 : Int) ∧ 0 < x.length))) (by first | omega | (simp; omega) | (simp; done) | (intros; simp_all; omega) | (intros; simp_all; done)) <| cc 10 (p := (((!(decide ((k.length : Int) = 0))) && (decide (0 < (x.length : Int)))) = true → ((!(decide ((k.length : Int) = 0))) && (decide (0 < (x.length : Int)))) = true)) (by first | omega | (simp; omega) | (simp; done) | (intros; simp_all; omega) | (intros; simp_all; done)) <| cc 12 (p := (((!(decide ((k.length : Int) = 0))) && (decide (0 < (x.length : Int)))) = true → (((!(decide ((k.length : Int) = 0))) && (decide (0 < (x.length : Int)))) = true) ∧ (0 ≤ (0 : Int) ∧ 0 < k.length))) qh1 <| cc 13 (p := (((!(decide ((k.length : Int) = 0))) && (decide (0 < (x.length : Int)))) = true → ((!(decide ((k.length : Int) = 0))) && (decide (0 < (x.length : Int)))) = true)) (by first | omega | (simp; omega) | (simp; done) | (intros; simp_all; omega) | (intros; simp_all; done)) <| cc 14 (p := (((!(decide ((k.length : Int) = 0))) && (decide (0 < (x.length : Int)))) = true → ((!(decide ((k.length : Int) = 0))) && (decide (0 < (x.length : Int)))) = true ∧ ((!(decide ((k.length : Int) = 0))) && (decide (0 < (x.length : Int)))) = true)) (by first | omega | (simp; omega) | (simp; done) | (intros; simp_all; omega) | (intros; simp_all; done)) <| cc 15 (p := ((!(decide ((k.length : Int) = 0))) = true → ((!(decide ((k.length : Int) = 0))) = true) ∧ ((decide (0 < (x.length : Int))) = true → ((!(decide ((k.length : Int) = 0))) && (decide (0 < (x.length : Int)))) = true))) (by first | omega | (simp; omega) | (simp; done) | (intros; simp_all; omega) | (intros; simp_all; done)) <| cc 16 (p := ((decide ((k.length : Int) = 0)) = false → (!(decide ((k.length : Int) = 0))) = true)) (by first | omega | (simp; omega) | (simp; done) | (intros; simp_all; omega) | (intros; simp_all; done)) <| c0) ?_
  have qh2 : ((((!(decide ((x.length : Int) = 0))) && (decide (0 < (k.length : Int)))) = true → (((!(decide ((x.length : Int) = 0))) && (decide (0 < (k.length : Int)))) = true) ∧ (0 ≤ (0 : Int) ∧ 0 < x.length))) := by
   intro hq; simp only [Bool.and_eq_true, Bool.not_eq_true', decide_eq_false_iff_not, decide_eq_true_eq] at hq ⊢; omega
  refine Cn [44, 45, 46, 47, 48, 49, 50, 51, 52, 53, 54, 55] [0, 1, 2, 7, 8, 9] [] hk0 (vk 17 56 (a := (.bool ((decide ((x.length : Int) = 0)) || ((decide (0 < (k.length : Int))) && (decide ((nth k 0) ≤ (nth x 0))))))) (b := (.bool (Bt k x))) (Imp.of_eq (congrArg AV.bool (Yv k x))) <| v0) (cc 5 (p := ((!(decide ((x.length : Int) = 0))) = true → (!(decide ((x.length : Int) = 0))) = true)) (by first | omega | (simp; omega) | (simp; done) | (intros; simp_all; omega) | (intros; simp_all; done)) <| cc 6 (p := ((!(decide ((x.length : Int) = 0))) = true → (!(decide ((x.length : Int) = 0))) = true)) (by first | omega | (simp; omega) | (simp; done) | (intros; simp_all; omega) | (intros; simp_all; done)) <| cc 7 (p := ((!(decide ((x.length : Int) = 0))) = true → (!(decide ((x.length : Int) = 0))) = true)) (by first | omega | (simp; omega) | (simp; done) | (intros; simp_all; omega) | (intros; simp_all; done)) <| cc 9 (p := (((!(decide ((x.length : Int) = 0))) && (decide (0 < (k.length : Int)))) = true → (((!(decide ((x.length : Int) = 0))) && (decide (0 < (k.length : Int)))) = true) ∧ (0 ≤ (0 : Int) ∧ 0 < k.length))) (by first | omega | (simp; omega) | (simp; done) | (intros; simp_all; omega) | (intros; simp_all; done)) <| cc 10 (p := (((!(decide ((x.length : Int) = 0))) && (decide (0 < (k.length : Int)))) = true → ((!(decide ((x.length : Int) = 0))) && (decide (0 < (k.length : Int)))) = true)) (by first | omega | (simp; omega) | (simp; done) | (intros; simp_all; omega) | (intros; simp_all; done)) <| cc 12 (p := (((!(decide ((x.length : Int) = 0))) && (decide (0 < (k.length : Int)))) = true → (((!(decide ((x.length : Int) = 0))) && (decide (0 < (k.length : Int)))) = true) ∧ (0 ≤ (0 : Int) ∧ 0 < x.length))) qh2 <| cc 13 (p := (((!(decide ((x.length : Int) = 0))) && (decide (0 < (k.length : Int)))) = true → ((!(decide ((x.length : Int) = 0))) && (decide (0 < (k.length : Int)))) = true)) (by first | omega | (simp; omega) | (simp; done) | (intros; simp_all; omega) | (intros; simp_all; done)) <| cc 14 (p := (((!(decide ((x.length : Int) = 0))) && (decide (0 < (k.length : Int)))) = true → ((!(decide ((x.length : Int) = 0))) && (decide (0 < (k.length : Int)))) = true ∧ ((!(decide ((x.length : Int) = 0))) && (decide (0 < (k.length : Int)))) = true)) (by first | omega | (simp; omega) | (simp; done) | (intros; simp_all; omega) | (intros; simp_all; done)) <| cc 15 (p := ((!(decide ((x.length : Int) = 0))) = true → ((!(decide ((x.length : Int) = 0))) = true) ∧ ((decide (0 < (k.length : Int))) = true → ((!(decide ((x.length : Int) = 0))) && (decide (0 < (k.length : Int)))) = true))) (by first | omega | (simp; omega) | (simp; done) | (intros; simp_all; omega) | (intros; simp_all; done)) <| cc 16 (p := ((decide ((x.length : Int) = 0)) = false → (!(decide ((x.length : Int) = 0))) = true)) (by first | omega | (simp; omega) | (simp; done) | (intros; simp_all; omega) | (intros; simp_all; done)) <| c0) ?_
  refine Aa [] [0, 1, 2, 7, 8, 9, 10] ?_
  refine Ab ?_
  refine Aa [] [0, 1, 2, 7, 8, 9, 10, 57] ?_
  refine A3 (q := Bt x k) (by kernel_rfl) (fun c2 => ?_) (fun c2 => ?_)
  ·try simp only [Bool.and_eq_true, Bool.or_eq_true, Bool.and_eq_false_iff, Bool.or_eq_false_iff, Bool.not_eq_true', Bool.not_eq_false', decide_eq_true_eq, decide_eq_false_iff_not] at c2
   have h1x := R8 hne c2
   refine Gh (CS := [(1, (0 ≤ (0 : Int) ∧ 0 < x.length)), (4, (0 ≤ (1 : Int) ∧ (1 : Int) ≤ (x.length : Int) ∧ (x.length : Int) ≤ (x.length : Int)))]) [] [0, 1, 2, 7, 8, 9, 10] [] hk0 (vk 6 62 (a := (.row 1 (x.length - 1) (fun kx => (.int .i64 (nth x (1 + kx)))))) (b := (Ap (x.drop 1))) (Su (by omega)) <| v0) (by refine cc _ ?_ <| cc _ ?_ c0 <;> first | omega | (simp; omega) | (simp; done) | (intros; simp_all; omega) | (intros; simp_all; done)) ?_
   refine Ab ?_
   refine Aa [] [0, 1, 2, 7, 8, 9, 10, 63] ?_
   refine A3 (q := Bt k x) (by kernel_rfl) (fun c3 => ?_) (fun c3 => ?_)
   ·try simp only [Bool.and_eq_true, Bool.or_eq_true, Bool.and_eq_false_iff, Bool.or_eq_false_iff, Bool.not_eq_true', Bool.not_eq_false', decide_eq_true_eq, decide_eq_false_iff_not] at c3
    have h1y := R8 (fun q => hne ⟨q.2, q.1⟩) c3
    refine Gh (CS := [(1, (0 ≤ (0 : Int) ∧ 0 < k.length)), (4, (0 ≤ (1 : Int) ∧ (1 : Int) ≤ (k.length : Int) ∧ (k.length : Int) ≤ (k.length : Int)))]) [] [0, 1, 2, 7, 8, 9, 10] [] hk0 (vk 6 68 (a := (.row 1 (k.length - 1) (fun kx => (.int .i64 (nth k (1 + kx)))))) (b := (Ap (k.drop 1))) (Su (by omega)) <| v0) (by refine cc _ ?_ <| cc _ ?_ c0 <;> first | omega | (simp; omega) | (simp; done) | (intros; simp_all; omega) | (intros; simp_all; done)) ?_
    refine Ab ?_
    refine Ar ?_
    refine Bv 3 0 [] [0, 1, 2, 7, 10, 69, 70, 71] [] hk0 v0 c0 ?_
    refine G3 (s' := [(0, (Ap (x.drop 1))), (1, (Ap (k.drop 1))), (2, (.clo q)), (7, (.own 0)), (10, (.int .i64 (nth k 0))), (69, (.clo q)), (70, (.bool (Bt x k))), (71, (.bool (Bt k x))), (72, (.bool (p ((Bt x k)) ((Bt k x)))))]) (a := (.clo q)) (al := [(.bool (Bt x k)), (.bool (Bt k x))]) (r := (.bool (p ((Bt x k)) ((Bt k x))))) (by kernel_rfl) (by kernel_rfl) (by kernel_rfl) (by kernel_rfl) (by kernel_rfl) ((hq _ _).clo) (by kernel_rfl) ?_
    refine B2 ?_
    refine A3 (q := p ((Bt x k)) ((Bt k x))) (by kernel_rfl) (fun c4 => ?_) (fun c4 => ?_)
    ·try simp only [Bool.and_eq_true, Bool.or_eq_true, Bool.and_eq_false_iff, Bool.or_eq_false_iff, Bool.not_eq_true', Bool.not_eq_false', decide_eq_true_eq, decide_eq_false_iff_not] at c4
     refine Ar ?_
     refine Aw 0 [] [0, 1, 2, 7] [] hk0 v0 (cc 3 (p := (((zs.map (AV.int .i64)).length + 1) * 8 ≤ 140737488355328)) (by first | omega | (simp; omega) | (simp; done) | (intros; simp_all; omega) | (intros; simp_all; done)) <| c0) ?_
     refine ⟨by kernel_rfl, _, ?_, g1 - 1, (x.drop 1), (k.drop 1), zs ++ [nth k 0], ?_, ?_, ?_, ?_, ?_, (Eq.trans (b := (⟨[(0, (Ap (x.drop 1))), (1, (Ap (k.drop 1))), (2, (.clo q)), (7, (.own 0))], [(0, (.grow ((zs.map (AV.int .i64)) ++ ([(.int .i64 (nth k 0))] : List AV)) 3 1))], 1⟩ : St)) (by kernel_rfl) (by rw [List.map_append] <;> kernel_rfl)), rfl⟩
     ·omega
     ·(try rw [List.length_drop]); omega
     ·(try rw [List.length_drop]); omega
     ·(repeat rw [List.length_drop]); omega
     ·(try rw [List.length_append, List.length_singleton]); (repeat rw [List.length_drop]); omega
     ·rw [c2, c3] at c4
      rw [f1_5, Kz (by omega) hne c2 c3]
      simp [c4]
    ·try simp only [Bool.and_eq_true, Bool.or_eq_true, Bool.and_eq_false_iff, Bool.or_eq_false_iff, Bool.not_eq_true', Bool.not_eq_false', decide_eq_true_eq, decide_eq_false_iff_not] at c4
     refine Ag ?_
     refine ⟨by kernel_rfl, _, ?_, g1 - 1, (x.drop 1), (k.drop 1), zs, ?_, ?_, ?_, ?_, ?_, (by kernel_rfl), rfl⟩
     ·omega
     ·(try rw [List.length_drop]); omega
     ·(try rw [List.length_drop]); omega
     ·(repeat rw [List.length_drop]); omega
     ·(try rw [List.length_append, List.length_singleton]); (repeat rw [List.length_drop]); omega
     ·rw [c2, c3] at c4
      rw [f1_5, Kz (by omega) hne c2 c3]
      simp [c4]
   ·try simp only [Bool.and_eq_true, Bool.or_eq_true, Bool.and_eq_false_iff, Bool.or_eq_false_iff, Bool.not_eq_true', Bool.not_eq_false', decide_eq_true_eq, decide_eq_false_iff_not] at c3
    refine Ag ?_
    refine Ab ?_
    refine Ar ?_
    refine Bv 3 0 [] [0, 1, 2, 7, 10, 69, 70, 71] [] hk0 v0 c0 ?_
    refine G3 (s' := [(0, (Ap (x.drop 1))), (1, (Ap k)), (2, (.clo q)), (7, (.own 0)), (10, (.int .i64 (nth x 0))), (69, (.clo q)), (70, (.bool (Bt x k))), (71, (.bool (Bt k x))), (72, (.bool (p ((Bt x k)) ((Bt k x)))))]) (a := (.clo q)) (al := [(.bool (Bt x k)), (.bool (Bt k x))]) (r := (.bool (p ((Bt x k)) ((Bt k x))))) (by kernel_rfl) (by kernel_rfl) (by kernel_rfl) (by kernel_rfl) (by kernel_rfl) ((hq _ _).clo) (by kernel_rfl) ?_
    refine B2 ?_
    refine A3 (q := p ((Bt x k)) ((Bt k x))) (by kernel_rfl) (fun c5 => ?_) (fun c5 => ?_)
    ·try simp only [Bool.and_eq_true, Bool.or_eq_true, Bool.and_eq_false_iff, Bool.or_eq_false_iff, Bool.not_eq_true', Bool.not_eq_false', decide_eq_true_eq, decide_eq_false_iff_not] at c5
     refine Ar ?_
     refine Aw 0 [] [0, 1, 2, 7] [] hk0 v0 (cc 3 (p := (((zs.map (AV.int .i64)).length + 1) * 8 ≤ 140737488355328)) (by first | omega | (simp; omega) | (simp; done) | (intros; simp_all; omega) | (intros; simp_all; done)) <| c0) ?_
     refine ⟨by kernel_rfl, _, ?_, g1 - 1, (x.drop 1), k, zs ++ [nth x 0], ?_, ?_, ?_, ?_, ?_, (Eq.trans (b := (⟨[(0, (Ap (x.drop 1))), (1, (Ap k)), (2, (.clo q)), (7, (.own 0))], [(0, (.grow ((zs.map (AV.int .i64)) ++ ([(.int .i64 (nth x 0))] : List AV)) 3 1))], 1⟩ : St)) (by kernel_rfl) (by rw [List.map_append] <;> kernel_rfl)), rfl⟩
     ·omega
     ·(try rw [List.length_drop]); omega
     ·(try rw [List.length_drop]); omega
     ·(repeat rw [List.length_drop]); omega
     ·(try rw [List.length_append, List.length_singleton]); (repeat rw [List.length_drop]); omega
     ·rw [c2, c3] at c5
      rw [f1_5, Kz (by omega) hne c2 c3]
      simp [c5]
    ·try simp only [Bool.and_eq_true, Bool.or_eq_true, Bool.and_eq_false_iff, Bool.or_eq_false_iff, Bool.not_eq_true', Bool.not_eq_false', decide_eq_true_eq, decide_eq_false_iff_not] at c5
     refine Ag ?_
     refine ⟨by kernel_rfl, _, ?_, g1 - 1, (x.drop 1), k, zs, ?_, ?_, ?_, ?_, ?_, (by kernel_rfl), rfl⟩
     ·omega
     ·(try rw [List.length_drop]); omega
     ·(try rw [List.length_drop]); omega
     ·(repeat rw [List.length_drop]); omega
     ·(try rw [List.length_append, List.length_singleton]); (repeat rw [List.length_drop]); omega
     ·rw [c2, c3] at c5
      rw [f1_5, Kz (by omega) hne c2 c3]
      simp [c5]
  ·try simp only [Bool.and_eq_true, Bool.or_eq_true, Bool.and_eq_false_iff, Bool.or_eq_false_iff, Bool.not_eq_true', Bool.not_eq_false', decide_eq_true_eq, decide_eq_false_iff_not] at c2
   refine Ag ?_
   refine Ab ?_
   refine Aa [] [0, 1, 2, 7, 8, 9, 10, 63] ?_
   refine A3 (q := Bt k x) (by kernel_rfl) (fun c6 => ?_) (fun c6 => ?_)
   ·try simp only [Bool.and_eq_true, Bool.or_eq_true, Bool.and_eq_false_iff, Bool.or_eq_false_iff, Bool.not_eq_true', Bool.not_eq_false', decide_eq_true_eq, decide_eq_false_iff_not] at c6
    have h1y := R8 (fun q => hne ⟨q.2, q.1⟩) c6
    refine Gh (CS := [(1, (0 ≤ (0 : Int) ∧ 0 < k.length)), (4, (0 ≤ (1 : Int) ∧ (1 : Int) ≤ (k.length : Int) ∧ (k.length : Int) ≤ (k.length : Int)))]) [] [0, 1, 2, 7, 8, 9, 10] [] hk0 (vk 6 68 (a := (.row 1 (k.length - 1) (fun kx => (.int .i64 (nth k (1 + kx)))))) (b := (Ap (k.drop 1))) (Su (by omega)) <| v0) (by refine cc _ ?_ <| cc _ ?_ c0 <;> first | omega | (simp; omega) | (simp; done) | (intros; simp_all; omega) | (intros; simp_all; done)) ?_
    refine Ab ?_
    refine Ar ?_
    refine Bv 3 0 [] [0, 1, 2, 7, 10, 69, 70, 71] [] hk0 v0 c0 ?_
    refine G3 (s' := [(0, (Ap x)), (1, (Ap (k.drop 1))), (2, (.clo q)), (7, (.own 0)), (10, (.int .i64 (nth k 0))), (69, (.clo q)), (70, (.bool (Bt x k))), (71, (.bool (Bt k x))), (72, (.bool (p ((Bt x k)) ((Bt k x)))))]) (a := (.clo q)) (al := [(.bool (Bt x k)), (.bool (Bt k x))]) (r := (.bool (p ((Bt x k)) ((Bt k x))))) (by kernel_rfl) (by kernel_rfl) (by kernel_rfl) (by kernel_rfl) (by kernel_rfl) ((hq _ _).clo) (by kernel_rfl) ?_
    refine B2 ?_
    refine A3 (q := p ((Bt x k)) ((Bt k x))) (by kernel_rfl) (fun c7 => ?_) (fun c7 => ?_)
    ·try simp only [Bool.and_eq_true, Bool.or_eq_true, Bool.and_eq_false_iff, Bool.or_eq_false_iff, Bool.not_eq_true', Bool.not_eq_false', decide_eq_true_eq, decide_eq_false_iff_not] at c7
     refine Ar ?_
     refine Aw 0 [] [0, 1, 2, 7] [] hk0 v0 (cc 3 (p := (((zs.map (AV.int .i64)).length + 1) * 8 ≤ 140737488355328)) (by first | omega | (simp; omega) | (simp; done) | (intros; simp_all; omega) | (intros; simp_all; done)) <| c0) ?_
     refine ⟨by kernel_rfl, _, ?_, g1 - 1, x, (k.drop 1), zs ++ [nth k 0], ?_, ?_, ?_, ?_, ?_, (Eq.trans (b := (⟨[(0, (Ap x)), (1, (Ap (k.drop 1))), (2, (.clo q)), (7, (.own 0))], [(0, (.grow ((zs.map (AV.int .i64)) ++ ([(.int .i64 (nth k 0))] : List AV)) 3 1))], 1⟩ : St)) (by kernel_rfl) (by rw [List.map_append] <;> kernel_rfl)), rfl⟩
     ·omega
     ·(try rw [List.length_drop]); omega
     ·(try rw [List.length_drop]); omega
     ·(repeat rw [List.length_drop]); omega
     ·(try rw [List.length_append, List.length_singleton]); (repeat rw [List.length_drop]); omega
     ·rw [c2, c6] at c7
      rw [f1_5, Kz (by omega) hne c2 c6]
      simp [c7]
    ·try simp only [Bool.and_eq_true, Bool.or_eq_true, Bool.and_eq_false_iff, Bool.or_eq_false_iff, Bool.not_eq_true', Bool.not_eq_false', decide_eq_true_eq, decide_eq_false_iff_not] at c7
     refine Ag ?_
     refine ⟨by kernel_rfl, _, ?_, g1 - 1, x, (k.drop 1), zs, ?_, ?_, ?_, ?_, ?_, (by kernel_rfl), rfl⟩
     ·omega
     ·(try rw [List.length_drop]); omega
     ·(try rw [List.length_drop]); omega
     ·(repeat rw [List.length_drop]); omega
     ·(try rw [List.length_append, List.length_singleton]); (repeat rw [List.length_drop]); omega
     ·rw [c2, c6] at c7
      rw [f1_5, Kz (by omega) hne c2 c6]
      simp [c7]
   ·try simp only [Bool.and_eq_true, Bool.or_eq_true, Bool.and_eq_false_iff, Bool.or_eq_false_iff, Bool.not_eq_true', Bool.not_eq_false', decide_eq_true_eq, decide_eq_false_iff_not] at c6
    have := Q88 hne c2
    rw [c6] at this
    cases this
 ·subst hb1
  try simp only [Bool.and_eq_true, Bool.or_eq_true, Bool.and_eq_false_iff, Bool.or_eq_false_iff, Bool.not_eq_true', Bool.not_eq_false', decide_eq_true_eq, decide_eq_false_iff_not] at c1
  refine Bj ?_
  refine Aa [] [6] ?_
  refine Af ?_
  refine RK wR [(.row 1 (zs.map (AV.int .i64)).length (fun ix => (zs.map (AV.int .i64)).getD ix Bl))] ?_
  simp only [Ah]
  exact Same.grown (f := AV.int .i64) (l := Jl p a b) (by
   obtain rfl : x = [] := List.length_eq_zero_iff.1 (by omega)
   obtain rfl : k = [] := List.length_eq_zero_iff.1 (by omega)
   unfold Jl
   rw [f1_5, Q7s, List.append_nil])
set_option maxHeartbeats 400000 in
set_option maxRecDepth 100000 in
theorem R2 (a b : List Int) (ha : a.length ≤ 4194304) (hb : b.length ≤ 4194304) :
  FnV Tryz.prog 24 [(Ap a), (Ap b)] (Ap (Ac a b)) := by
 refine A1 [.tmp 4] Tryz.func24 rfl Tryz.ntmps24 rfl rfl (fun B F hF => ?_)
 refine Aa [] [0, 1] ?_
 refine Ad [] [4] [] (hk 2 (al := [(Ap a), (Ap b), (.fn 71 [] [])]) Ze (((Xf a b (.fn 71 [] []) (fun _ v => !v) ha hb (fun u v => FunV.of (by exact Q90) (Q7q u v))).of_args (ImpL.cons Imp.refl (ImpL.cons Imp.refl (ImpL.cons (Imp.clo rfl) ImpL.nil)))).to (Same.of_eq (by rw [Q7p]))) <| hk0) v0 c0 ?_
 refine Af ?_
 refine RK wR [(Ap (Ac a b))] ?_
 exact Same.of_eq (by first | rfl | (simp only [Ah]; simp_all))
set_option maxHeartbeats 400000 in
set_option maxRecDepth 100000 in
theorem Ye (a b : List Int) (ha : a.length ≤ 4194304) (hb : b.length ≤ 4194304) :
  FnV Tryz.prog 73 [(Ap a), (Ap b)] (Ap (A5 a b)) := by
 refine A1 [.tmp 4] Tryz.func73 rfl Tryz.ntmps73 rfl rfl (fun B F hF => ?_)
 refine Aa [] [0, 1] ?_
 refine Ad [] [4] [] (hk 2 (al := [(Ap a), (Ap b), (.fn 127 [] [])]) Ze (((Xf a b (.fn 127 [] []) (fun _ _ => true) ha hb (fun u v => FunV.of (by exact X1c) (Q27 u v))).of_args (ImpL.cons Imp.refl (ImpL.cons Imp.refl (ImpL.cons (Imp.clo rfl) ImpL.nil)))).to (Same.of_eq (by rw [Q26]))) <| hk0) v0 c0 ?_
 refine Af ?_
 refine RK wR [(Ap (A5 a b))] ?_
 exact Same.of_eq (by first | rfl | (simp only [Ah]; simp_all))
end Sv
end Go.Proofs.YtlfjokcbkopfeaaGreatDoor
end
section
namespace Go.Proofs.YtlfjokcbkopfeaaGreatDoor
open Go Go.RowKit
namespace Sv
attribute [local irreducible] SW SO Bg
theorem Sk : Am Tryz.prog 36 := Av Tryz.func36 (by kernel_rfl) rfl
theorem Z2 : Am Tryz.prog 17 := Av Tryz.func17 (by kernel_rfl) rfl
theorem Q9z : Am Tryz.prog 74 := Av Tryz.func74 (by kernel_rfl) rfl
theorem Sh : Am Tryz.prog 75 := Av Tryz.func75 (by kernel_rfl) rfl
theorem Q8q {l : List Int} {n : Int} {i : Nat} (h : i < l.length) (e : nth l i = n) : decide (n ∈ l) = true := decide_eq_true (by rw [← e, Es h]; exact List.getElem_mem h)
theorem Q8r {l : List Int} {n : Int} (h : ∀ j, j < l.length → ¬ nth l j = n) : decide (n ∈ l) = false := decide_eq_false fun k => by
 obtain ⟨j, hj, e⟩ := List.getElem_of_mem k
 exact h j hj (by rw [Es hj, e])
theorem Q4n {a b : List Int} (hl : a.length = b.length) (h : ∀ j, j < a.length → nth a j = nth b j) : decide (a = b) = true := decide_eq_true (List.ext_getElem hl fun j h1 h2 => by
 have := h j h1
 rwa [Es h1, Es h2] at this)
theorem Q4o {a b : List Int} {i : Nat} (h : ¬ nth a i = nth b i) : decide (a = b) = false := decide_eq_false fun e => h (by rw [e])
theorem Q4p {a b : List Int} (h : ¬ a.length = b.length) : decide (a = b) = false := decide_eq_false fun e => h (by rw [e])
def D7 (l : List Int) : List Int := l.foldl (fun s x => Cv x s) []
theorem I8 (l : List Int) : D7 l = B5 l := by
 have : ∀ (l k : List Int), l.foldl (fun s x => Cv x s) (B5 k) = B5 (k ++ l) := by
  intro l
  induction l with
  | nil => intro k; rw [List.append_nil]; rfl
  | cons x l ih => intro k; rw [List.foldl_cons, N7, ih, List.append_assoc]; rfl
 have h := this l []
 rw [Q4b] at h
 exact h
theorem Uv (l : List Int) : (D7 l).length ≤ l.length := by rw [I8]; exact Hv l
theorem Q4e {l : List Int} {i : Nat} (h : i < l.length) : Cv (nth l i) (D7 (l.take i)) = D7 (l.take (i + 1)) := by rw [I8, I8, N7, Kf h]
theorem Q4c {f : Int → Bool} {l : List Int} {i : Nat} (h : i < l.length) (hf : f (nth l i) = true) : Cv (nth l i) (D7 ((l.take i).filter f)) = D7 ((l.take (i + 1)).filter f) := by
 rw [I8, I8, N7, Kf h, List.filter_append]; simp [hf]
theorem Q4d {f : Int → Bool} {l : List Int} {i : Nat} (h : i < l.length) (hf : f (nth l i) = false) : D7 ((l.take i).filter f) = D7 ((l.take (i + 1)).filter f) := by
 rw [Kf h, List.filter_append]; simp [hf]
theorem Q4f (f : Int → Bool) (l : List Int) (i : Nat) : (D7 ((l.take i).filter f)).length ≤ l.length := by
 have h1 := Uv ((l.take i).filter f)
 have h2 := List.length_filter_le f (l.take i)
 rw [List.length_take] at h2; omega
set_option maxHeartbeats 400000 in
set_option maxRecDepth 100000 in
theorem Q8 (l : List Int) (n : Int) (hl : l.length ≤ 4611686018427) :
  FnV Tryz.prog 36 [(Ap l), (.int .i64 n)] (.bool (decide (n ∈ l))) := by
 refine A1 [.tmp 4] Tryz.func36 rfl Tryz.ntmps36 rfl rfl (fun B F hF => ?_)
 refine Aa [] [0, 1] ?_
 refine Ab ?_
 refine Aa [] [0, 1, 5] ?_
 refine A0 ?_
 refine Bq (fun g y => ∃ (i : Nat), i ≤ l.length ∧ (∀ j, j < i → ¬ nth l j = n) ∧ y = ⟨[(0, (Ap l)), (1, (.int .i64 n)), (5, (.int .i64 ((i : Int))))], [], 0⟩ ∧ g = l.length - i) [0, 1, 5] 0 _ (by omega) ⟨0, (by omega), (by exact fun j hj => by omega), (by kernel_rfl), rfl⟩ ?_
 rintro g1 y1 ⟨i, f1_1, f1_2, rfl, rfl⟩
 refine Ab ?_
 refine Aa [] [0, 1, 5, 9] ?_
 refine A2 (p := (i : Int) < (l.length : Int)) (by kernel_rfl) (fun c1 => ?_) (fun c1 => ?_)
 ·refine Ag ?_
  refine Ab ?_
  refine A0 ?_
  refine Ad [] [0, 1, 5, 17] [] hk0 v0 (cc 2 (p := (0 ≤ (i : Int) ∧ i < l.length)) (by first | omega | (simp; omega) | (simp; done) | (intros; simp_all; omega) | (intros; simp_all; done)) <| c0) ?_
  refine A2 (p := (nth l i) = n) (by kernel_rfl) (fun c2 => ?_) (fun c2 => ?_)
  ·refine Aa [] [4] ?_
   refine Af ?_
   refine RK wR [(.bool true)] ?_
   exact Same.of_eq (by rw [Q8q (i := i) (by omega) (by assumption)]; rfl)
  ·refine Ag ?_
   refine Ar ?_
   refine Aw 0 [] [0, 1, 5] [] hk0 v0 (cc 1 (p := (-9223372036854775808 ≤ (i : Int) + 1 ∧ (i : Int) + 1 ≤ 9223372036854775807)) (by first | omega | (simp; omega) | (simp; done) | (intros; simp_all; omega) | (intros; simp_all; done)) <| c0) ?_
   refine ⟨by kernel_rfl, _, ?_, i + 1, ?_, ?_, (by kernel_rfl), rfl⟩
   ·omega
   ·omega
   ·intro j hj
    by_cases h : j = i
    ·subst h; simp_all
    ·exact f1_2 j (by omega)
 ·refine Bj ?_
  refine Aa [] [4] ?_
  refine Af ?_
  refine RK wR [(.bool false)] ?_
  exact Same.of_eq (by rw [Q8r (fun j hj => f1_2 j (by omega))]; rfl)
set_option maxHeartbeats 400000 in
set_option maxRecDepth 100000 in
theorem Vj (a b : List Int) (ha : a.length ≤ 4611686018427) :
  FnV Tryz.prog 17 [(Ap a), (Ap b)] (.bool (decide (a = b))) := by
 refine A1 [.tmp 4] Tryz.func17 rfl Tryz.ntmps17 rfl rfl (fun B F hF => ?_)
 refine Aa [] [0, 1] ?_
 refine Ab ?_
 refine Aa [] [0, 1, 10] ?_
 refine Cm (p := (a.length : Int) = (b.length : Int)) (by kernel_rfl) (fun c1 => ?_) (fun c1 => ?_)
 ·refine Aa [] [4] ?_
  refine Af ?_
  refine RK wR [(.bool false)] ?_
  exact Same.of_eq (by rw [Q4p (by omega)]; rfl)
 ·refine Ag ?_
  refine Ab ?_
  refine Aa [] [0, 1, 5] ?_
  refine A0 ?_
  refine Bq (fun g y => ∃ (i : Nat), i ≤ a.length ∧ (∀ j, j < i → nth a j = nth b j) ∧ y = ⟨[(0, (Ap a)), (1, (Ap b)), (5, (.int .i64 ((i : Int))))], [], 0⟩ ∧ g = a.length - i) [0, 1, 5] 0 _ (by omega) ⟨0, (by omega), (by exact fun j hj => by omega), (by kernel_rfl), rfl⟩ ?_
  rintro g1 y1 ⟨i, f1_1, f1_2, rfl, rfl⟩
  refine Ab ?_
  refine Aa [] [0, 1, 5, 14] ?_
  refine A2 (p := (i : Int) < (a.length : Int)) (by kernel_rfl) (fun c2 => ?_) (fun c2 => ?_)
  ·refine Ag ?_
   refine Ab ?_
   refine A0 ?_
   refine Cn (CS := [(2, (0 ≤ (i : Int) ∧ i < a.length)), (6, (0 ≤ (i : Int) ∧ i < b.length))]) [] [0, 1, 5, 25] [] hk0 v0 (by refine cc _ ?_ <| cc _ ?_ c0 <;> first | omega | (simp; omega) | (simp; done) | (intros; simp_all; omega) | (intros; simp_all; done)) ?_
   refine Cm (p := (nth a i) = (nth b i)) (by kernel_rfl) (fun c3 => ?_) (fun c3 => ?_)
   ·refine Aa [] [4] ?_
    refine Af ?_
    refine RK wR [(.bool false)] ?_
    exact Same.of_eq (by rw [Q4o (i := i) (by simp_all)]; rfl)
   ·refine Ag ?_
    refine Ar ?_
    refine Aw 0 [] [0, 1, 5] [] hk0 v0 (cc 1 (p := (-9223372036854775808 ≤ (i : Int) + 1 ∧ (i : Int) + 1 ≤ 9223372036854775807)) (by first | omega | (simp; omega) | (simp; done) | (intros; simp_all; omega) | (intros; simp_all; done)) <| c0) ?_
    refine ⟨by kernel_rfl, _, ?_, i + 1, ?_, ?_, (by kernel_rfl), rfl⟩
    ·omega
    ·omega
    ·intro j hj
     by_cases h : j = i
     ·subst h; simp_all
     ·exact f1_2 j (by omega)
  ·refine Bj ?_
   refine Aa [] [4] ?_
   refine Af ?_
   refine RK wR [(.bool true)] ?_
   exact Same.of_eq (by rw [Q4n (by omega) (fun j hj => f1_2 j (by omega))]; rfl)
set_option maxHeartbeats 400000 in
set_option maxRecDepth 100000 in
theorem Q5n (l : List Int) (hl : l.length ≤ 4611686018) :
  FnV Tryz.prog 74 [(Ap l)] (Ap (B5 l)) := by
 refine A1 [.tmp 2] Tryz.func74 rfl Tryz.ntmps74 rfl rfl (fun B F hF => ?_)
 refine Aa [] [0] ?_
 refine Aa [] [0, 3] ?_
 refine Ab ?_
 refine Ab ?_
 refine Ar ?_
 refine Gi 3 (Ap []) (by kernel_rfl) Imp.nil ?_
 refine Ep [] [0, 3, 4] ?_
 refine A0 ?_
 refine Bq (fun g y => ∃ (i : Nat), i ≤ l.length ∧ y = ⟨[(0, (Ap l)), (3, (Ap (D7 (l.take i)))), (4, (.int .i64 ((i : Int))))], [], 0⟩ ∧ g = l.length - i) [0, 3, 4] 0 _ (by omega) ⟨0, (by omega), (by kernel_rfl), rfl⟩ ?_
 rintro g1 y1 ⟨i, f1_1, rfl, rfl⟩
 refine Ab ?_
 refine Aa [] [0, 3, 4, 8] ?_
 refine A2 (p := (i : Int) < (l.length : Int)) (by kernel_rfl) (fun c1 => ?_) (fun c1 => ?_)
 ·refine Ag ?_
  refine Ab ?_
  refine A0 ?_
  refine Ar ?_
  refine Aw 0 [] [0, 3, 4] [] (hk 5 Sl (Ra (D7 (l.take i)) (nth l i) (by have := Uv (l.take i); rw [List.length_take] at this; omega)) <| hk0) v0 (cc 3 (p := (0 ≤ (i : Int) ∧ i < l.length)) (by first | omega | (simp; omega) | (simp; done) | (intros; simp_all; omega) | (intros; simp_all; done)) <| c0) ?_
  refine Ar ?_
  refine Aw 0 [] [0, 3, 4] [] hk0 v0 (cc 1 (p := (-9223372036854775808 ≤ (i : Int) + 1 ∧ (i : Int) + 1 ≤ 9223372036854775807)) (by first | omega | (simp; omega) | (simp; done) | (intros; simp_all; omega) | (intros; simp_all; done)) <| c0) ?_
  refine ⟨by kernel_rfl, _, ?_, i + 1, ?_, (Eq.trans (b := (⟨[(0, (Ap l)), (3, (Ap (Cv (nth l i) (D7 (l.take i))))), (4, (.int .i64 ((i : Int) + 1)))], [], 0⟩ : St)) (by kernel_rfl) (by rw [Q4e (by omega)] <;> kernel_rfl)), rfl⟩
  all_goals omega
 ·refine Bj ?_
  refine Aa [] [2] ?_
  refine Af ?_
  refine RK wR [(Ap (D7 (l.take i)))] ?_
  exact Same.of_eq (by simp only [Ah]; rw [show i = l.length from by omega, List.take_length, I8])
set_option maxHeartbeats 400000 in
set_option maxRecDepth 100000 in
theorem Q7 (a b : List Int) (ha : a.length ≤ 4611686018) (hb : b.length ≤ 4611686018) :
  FnV Tryz.prog 75 [(Ap a), (Ap b)] (Ap (Ac a b)) := by
 refine A1 [.tmp 4] Tryz.func75 rfl Tryz.ntmps75 rfl rfl (fun B F hF => ?_)
 refine Aa [] [0, 1] ?_
 refine Aa [] [0, 1, 5] ?_
 refine Ab ?_
 refine Ab ?_
 refine Ar ?_
 refine Gi 5 (Ap []) (by kernel_rfl) Imp.nil ?_
 refine Ep [] [0, 1, 5, 6] ?_
 refine A0 ?_
 refine Bq (fun g y => ∃ (i : Nat), i ≤ a.length ∧ y = ⟨[(0, (Ap a)), (1, (Ap b)), (5, (Ap (D7 ((a.take i).filter fun z => !decide (z ∈ b))))), (6, (.int .i64 ((i : Int))))], [], 0⟩ ∧ g = a.length - i) [0, 1, 5, 6] 0 _ (by omega) ⟨0, (by omega), (by kernel_rfl), rfl⟩ ?_
 rintro g1 y1 ⟨i, f1_1, rfl, rfl⟩
 refine Ab ?_
 refine Aa [] [0, 1, 5, 6, 11] ?_
 refine A2 (p := (i : Int) < (a.length : Int)) (by kernel_rfl) (fun c1 => ?_) (fun c1 => ?_)
 ·refine Ag ?_
  refine Ab ?_
  refine A0 ?_
  refine Ad [] [0, 1, 5, 6, 7] [] (hk 5 Sk (Q8 b (nth a i) (by omega)) <| hk0) v0 (cc 3 (p := (0 ≤ (i : Int) ∧ i < a.length)) (by first | omega | (simp; omega) | (simp; done) | (intros; simp_all; omega) | (intros; simp_all; done)) <| c0) ?_
  refine Aa [] [0, 1, 5, 6, 21] ?_
  refine A3 (q := !(decide (nth a i ∈ b))) (by kernel_rfl) (fun c2 => ?_) (fun c2 => ?_)
  ·try simp only [Bool.and_eq_true, Bool.or_eq_true, Bool.and_eq_false_iff, Bool.or_eq_false_iff, Bool.not_eq_true', Bool.not_eq_false', decide_eq_true_eq, decide_eq_false_iff_not] at c2
   refine Ar ?_
   refine Aw 0 [] [0, 1, 5, 6] [] (hk 5 Sl (Ra (D7 ((a.take i).filter fun z => !decide (z ∈ b))) (nth a i) (by have := Q4f (fun z => !decide (z ∈ b)) a i; omega)) <| hk0) v0 (cc 3 (p := (0 ≤ (i : Int) ∧ i < a.length)) (by first | omega | (simp; omega) | (simp; done) | (intros; simp_all; omega) | (intros; simp_all; done)) <| c0) ?_
   refine Ar ?_
   refine Aw 0 [] [0, 1, 5, 6] [] hk0 v0 (cc 1 (p := (-9223372036854775808 ≤ (i : Int) + 1 ∧ (i : Int) + 1 ≤ 9223372036854775807)) (by first | omega | (simp; omega) | (simp; done) | (intros; simp_all; omega) | (intros; simp_all; done)) <| c0) ?_
   refine ⟨by kernel_rfl, _, ?_, i + 1, ?_, (Eq.trans (b := (⟨[(0, (Ap a)), (1, (Ap b)), (5, (Ap (Cv (nth a i) (D7 ((a.take i).filter fun z => !decide (z ∈ b)))))), (6, (.int .i64 ((i : Int) + 1)))], [], 0⟩ : St)) (by kernel_rfl) (by rw [Q4c (f := fun z => !decide (z ∈ b)) (by omega) (by simp_all)] <;> kernel_rfl)), rfl⟩
   all_goals omega
  ·try simp only [Bool.and_eq_true, Bool.or_eq_true, Bool.and_eq_false_iff, Bool.or_eq_false_iff, Bool.not_eq_true', Bool.not_eq_false', decide_eq_true_eq, decide_eq_false_iff_not] at c2
   refine Ag ?_
   refine Ar ?_
   refine Aw 0 [] [0, 1, 5, 6] [] hk0 v0 (cc 1 (p := (-9223372036854775808 ≤ (i : Int) + 1 ∧ (i : Int) + 1 ≤ 9223372036854775807)) (by first | omega | (simp; omega) | (simp; done) | (intros; simp_all; omega) | (intros; simp_all; done)) <| c0) ?_
   refine ⟨by kernel_rfl, _, ?_, i + 1, ?_, (Eq.trans (b := (⟨[(0, (Ap a)), (1, (Ap b)), (5, (Ap (D7 ((a.take i).filter fun z => !decide (z ∈ b))))), (6, (.int .i64 ((i : Int) + 1)))], [], 0⟩ : St)) (by kernel_rfl) (by rw [← Q4d (f := fun z => !decide (z ∈ b)) (by omega) (by simp_all)] <;> kernel_rfl)), rfl⟩
   all_goals omega
 ·refine Bj ?_
  refine Aa [] [4] ?_
  refine Af ?_
  refine RK wR [(Ap (D7 ((a.take i).filter fun z => !decide (z ∈ b))))] ?_
  exact Same.of_eq (by simp only [Ah]; rw [show i = a.length from by omega, List.take_length, I8]; rfl)
end Sv
end Go.Proofs.YtlfjokcbkopfeaaGreatDoor
end
section
namespace Go.Proofs.YtlfjokcbkopfeaaGreatDoor
open Go Go.RowKit
namespace Sv
attribute [local irreducible] SW SO Bg
def C6 (k : Int) (a b : List UInt8) : Int × Int := if ¬ (Au k a b).2.2 = 0 then (0, (Au k a b).2.2) else (orI (Bn k (Au k a b).1 (Au k a b).2.1).1 (Bn k (Au k a b).1 (Au k a b).2.1).2, 0)
def Sgn (x : Int) : Prop := -1 ≤ x ∧ x ≤ 1
theorem L1 : Sgn 0 := ⟨by decide, by decide⟩
theorem L0 : Sgn 1 := ⟨by decide, by decide⟩
theorem Np : Sgn (-1) := ⟨by decide, by decide⟩
theorem S8 (a b : Int) : Sgn (Cg a b) := by unfold Cg Sgn; split <;> (try split) <;> omega
theorem L7 {a b : Int} (h1 : Sgn a) (h2 : Sgn b) : Sgn (orI a b) := by unfold orI; split <;> assumption
theorem Re {g : Int} (a b : Bool) (h : Sgn g) : Sgn (Eb a b g) := by unfold Eb Sgn at *; split <;> (try split) <;> omega
theorem Tc : ∀ a b : List UInt8, Sgn (Lib.compareBytes a b)
 | [], [] => L1
 | [], _ :: _ => Np
 | _ :: _, [] => L0
 | a :: r, b :: s => by
  unfold Lib.compareBytes
  split
  ·exact Np
  ·split
   ·exact L0
   ·exact Tc r s
theorem L9 (a b : List UInt8) : Sgn (Cf a b) := L7 (S8 _ _) (Tc _ _)
theorem Pg : ∀ (n : Nat) (a b : List UInt8), Sgn (C2 n a b)
 | 0, _, _ => L1
 | n + 1, a, b => by
  unfold C2
  split
  ·split
   ·exact S8 _ _
   ·exact Pg n _ _
  ·split
   ·exact L9 _ _
   ·split
    ·exact Pg n _ _
    ·exact L1
theorem Nu : ∀ (n : Nat) (a b : List UInt8), Sgn (D9 n a b)
 | 0, _, _ => L1
 | n + 1, a, b => by
  unfold D9 Cz
  repeat' split
  all_goals first | exact Nu n _ _ | exact Re _ _ L0 | exact Re _ _ Np | exact S8 _ _ | exact L9 _ _ | exact Tc _ _ | exact L0 | exact Np
theorem S9 (k : Int) (a b : List UInt8) : Sgn (C6 k a b).1 := by
 unfold C6
 split
 ·exact L1
 ·have h1 : ∀ x y : List UInt8 × List UInt8 × List UInt8, Sgn (Bn k x y).1 ∧ Sgn (Bn k x y).2 := fun x y => by
   unfold Bn Gy Fo
   split
   ·exact ⟨L7 (L9 _ _) (Pg _ _ _), Pg _ _ _⟩
   ·split
    ·exact ⟨L7 (L9 _ _) (Nu _ _ _), Re _ _ L0⟩
    ·exact ⟨L7 (L9 _ _) (Nu _ _ _), Nu _ _ _⟩
  exact L7 (h1 _ _).1 (h1 _ _).2
set_option maxHeartbeats 1000000 in
set_option maxRecDepth 100000 in
theorem X12 (k : Int) (a b : List UInt8) (ha : a.length ≤ 4194304) (hb : b.length ≤ 4194304) :
  FnV Tryz.prog 80 [(.int .i64 k), (.str a), (.str b)] (.tup [.int .i64 (C6 k a b).1, .int .i64 (C6 k a b).2]) := by
 have hbl := Pm k a b
 refine A1 [.tmp 6, .tmp 7] Tryz.func80 rfl Tryz.ntmps80 rfl rfl (fun B F hF => ?_)
 refine Aa [] [0, 1, 2] ?_
 refine Ad [] [0, 8, 9, 10] [(11, 8), (12, 9)] (hk 3 Q0b (Q02 k a b (by omega) (by omega)) <| hk0) v0 c0 ?_
 refine Ab ?_
 refine Aa [] [0, 8, 9, 10, 20] ?_
 refine Cm (p := ((Au k a b).2.2) = 0) (by kernel_rfl) (fun c1 => ?_) (fun c1 => ?_)
 ·refine Aa [] [6, 7] ?_
  refine Af ?_
  refine RK wR [(.int .i64 0), (.int .i64 ((Au k a b).2.2))] ?_
  exact Same.of_eq (by simp only [Ah]; unfold C6; rw [if_pos (by assumption)])
 ·refine Ag ?_
  refine Ad [] [6, 7] [(7, 28)] (hk 3 Q0a (V4 k (Au k a b).1 (Au k a b).2.1 ⟨by omega, by omega, by omega⟩ ⟨by omega, by omega, by omega⟩) <| hk 7 Pc (Oh (Bn k (Au k a b).1 (Au k a b).2.1).1 (Bn k (Au k a b).1 (Au k a b).2.1).2) <| hk0) (vk 7 28 (b := (Ap [(Bn k (Au k a b).1 (Au k a b).2.1).1, (Bn k (Au k a b).1 (Au k a b).2.1).2])) (Imp.list (f := AV.int .i64) rfl) <| v0) c0 ?_
  refine Af ?_
  refine RK wR [(.int .i64 (orI (Bn k (Au k a b).1 (Au k a b).2.1).1 (Bn k (Au k a b).1 (Au k a b).2.1).2)), (.int .i64 0)] ?_
  exact Same.of_eq (by simp only [Ah]; unfold C6; rw [if_neg (by simp_all)])
end Sv
end Go.Proofs.YtlfjokcbkopfeaaGreatDoor
end
section
namespace Go.Proofs.YtlfjokcbkopfeaaGreatDoor
open Go Go.RowKit
namespace Sv
abbrev Cd := Int × Int × Int
def Dt (k : Int) : Bool := decide (k = 1) || (decide (k = 3) || (decide (k = 4) || decide (k = 5)))
def Ff (k : Int) : Bool := decide (k = 2) || (decide (k = 6) || decide (k = 7))
def Dq (s : List Int) (q : Cd) : List Int := if Dt q.1 = true then A5 s [q.2.1] else if Ff q.1 = true then Ac s [q.2.1] else s
def Cp (l : List Int) (q : List Cd) : List Int := q.foldl Dq (B5 l)
theorem X2z {l : List Int} {q : List Cd} {x : Cd} : Cp l (q ++ [x]) = Dq (Cp l q) x := by unfold Cp; rw [List.foldl_append]; rfl
theorem Ys {α β : Type} {C : β → Prop} {f : β → α → β} (h : ∀ s a, C s → C (f s a)) : ∀ (l : List α) (s : β), C s → C (l.foldl f s)
  | [], _, k => k
  | a :: l, s, k => Ys h l _ (h s a k)
theorem Q1i (l : List Int) (q : List Cd) : Cu (Cp l q) := Ys (C := Cu) (fun s a h => by
  unfold Dq
  split
  · exact P8 _ _
  · split
    · exact Q7o _ _
    · exact h) q _ (Hu l)
theorem X20 (s : List Int) (x : Cd) : (Dq s x).length ≤ s.length + 1 := by
  unfold Dq
  split
  · have := Hv (s ++ [x.2.1])
    unfold A5
    rw [List.length_append, List.length_singleton] at this
    exact this
  · split
    · have h1 := Hv (s.filter fun z => !decide (z ∈ [x.2.1]))
      have h2 := List.length_filter_le (fun z => !decide (z ∈ [x.2.1])) s
      unfold Ac; omega
    · omega
theorem Tj (l : List Int) (q : List Cd) : (Cp l q).length ≤ l.length + q.length := by
  have h : ∀ (q : List Cd) (s : List Int), (q.foldl Dq s).length ≤ s.length + q.length := by
    intro q
    induction q with
    | nil => intro s; exact Nat.le_refl _
    | cons x q ih =>
      intro s
      have h1 := X20 s x
      have h2 := ih (Dq s x)
      simp only [List.foldl_cons, List.length_cons]; omega
  have h1 := h q (B5 l)
  have h2 := Hv l
  unfold Cp; omega
theorem Yq {z : Int} : ∀ (q : List Cd) (s : List Int), (∀ x ∈ q, Dt x.1 = true ∨ Ff x.1 = true) → (q.map fun x => x.2.1).Nodup → (z ∈ q.foldl Dq s ↔ (∃ x ∈ q, x.2.1 = z ∧ Dt x.1 = true) ∨ (z ∈ s ∧ ∀ x ∈ q, x.2.1 = z → Dt x.1 = true))
  | [], s, _, _ => by simp
  | x :: q, s, hk, hn => by
    rw [List.map_cons, List.nodup_cons] at hn
    have ih := Yq (z := z) q (Dq s x) (fun y hy => hk y (by simp [hy])) hn.2
    rw [List.foldl_cons, ih]
    have hx := hk x (by simp)
    by_cases e : x.2.1 = z
    · have no : ¬ ∃ y ∈ q, y.2.1 = z ∧ Dt y.1 = true := fun ⟨y, hy, h1, _⟩ => hn.1 (List.mem_map.2 ⟨y, hy, by rw [h1, e]⟩)
      have all : ∀ y ∈ q, y.2.1 = z → Dt y.1 = true := fun y hy h1 => absurd (List.mem_map.2 ⟨y, hy, by rw [h1, e]⟩) hn.1
      by_cases c : Dt x.1 = true
      · have m : z ∈ Dq s x := by unfold Dq; rw [if_pos c, unionZ_mem]; simp [e]
        exact ⟨fun _ => .inl ⟨x, by simp, e, c⟩, fun _ => .inr ⟨m, all⟩⟩
      · have g := hx.resolve_left c
        have m : ¬ z ∈ Dq s x := by unfold Dq; rw [if_neg c, if_pos g, minusZ_mem]; simp [e]
        constructor
        · rintro (h | h)
          · exact absurd h no
          · exact absurd h.1 m
        · rintro (⟨y, hy, h1, h2⟩ | h)
          · rcases List.mem_cons.1 hy with rfl | hy
            · exact absurd h2 c
            · exact absurd ⟨y, hy, h1, h2⟩ no
          · exact absurd (h.2 x (by simp) e) c
    · have m : z ∈ Dq s x ↔ z ∈ s := by
        unfold Dq
        split
        · rw [unionZ_mem, List.mem_singleton]; exact ⟨fun h => h.resolve_right fun k => e k.symm, .inl⟩
        · split
          · rw [minusZ_mem, List.mem_singleton]; exact ⟨fun h => h.1, fun h => ⟨h, fun k => e k.symm⟩⟩
          · exact Iff.rfl
      rw [m]
      constructor
      · rintro (⟨y, hy, h⟩ | ⟨h1, h2⟩)
        · exact .inl ⟨y, by simp [hy], h⟩
        · exact .inr ⟨h1, fun y hy k => by
            rcases List.mem_cons.1 hy with rfl | hy
            · exact absurd k e
            · exact h2 y hy k⟩
      · rintro (⟨y, hy, h⟩ | ⟨h1, h2⟩)
        · rcases List.mem_cons.1 hy with rfl | hy
          · exact absurd h.1 e
          · exact .inl ⟨y, hy, h⟩
        · exact .inr ⟨h1, fun y hy => h2 y (by simp [hy])⟩
def Bi (p : Int → Bool) (l : List Int) : Int := if 0 ≤ Cj p l then nth l (Cj p l).toNat else -1
theorem U8 : ∀ {l : List Int}, Cu l → l.Nodup
  | [], _ => List.nodup_nil
  | x :: l, h => List.nodup_cons.2 ⟨fun k => by have := h.1 x k; omega, U8 h.2⟩
section
variable {f : List Int → List Int → Int → Cd} {a b : List Int}
def Tn (f : List Int → List Int → Int → Cd) : Prop := ∀ c g i, (f c g i).2.1 = i ∧ (i ∈ c → Dt (f c g i).1 = true ∧ Ff (f c g i).1 = false) ∧ (¬ i ∈ c → Dt (f c g i).1 = false ∧ Ff (f c g i).1 = true)
def Ez (f : List Int → List Int → Int → Cd) (a b : List Int) : List Cd := (A5 (Ac b a) (Ac a b)).map (f (Ac b a) (Ac a b))
theorem Q3m (h : Tn f) : (Ez f a b).map (fun x => x.2.1) = A5 (Ac b a) (Ac a b) := by
  unfold Ez
  rw [List.map_map]
  refine Eq.trans (List.map_congr_left fun i _ => (h _ _ i).1) (List.map_id _)
theorem Q3o (h : Tn f) (hb : Cu b) {q : List Cd} (hq : q.Perm (Ez f a b)) : Cp a q = b := by
  have hn : (q.map fun x => x.2.1).Nodup := by
    rw [(hq.map fun x => x.2.1).nodup_iff, Q3m h]
    exact U8 (P8 _ _)
  have hm : ∀ x, x ∈ q ↔ x ∈ Ez f a b := fun x => hq.mem_iff
  have hk : ∀ x ∈ q, ∃ i, (i ∈ Ac b a ∨ i ∈ Ac a b) ∧ x.2.1 = i ∧ (Dt x.1 = true ↔ i ∈ Ac b a) ∧ (Dt x.1 = true ∨ Ff x.1 = true) := fun x hx => by
    obtain ⟨i, hi, rfl⟩ := List.mem_map.1 ((hm x).1 hx)
    have k := h (Ac b a) (Ac a b) i
    refine ⟨i, unionZ_mem.1 hi, k.1, ?_, ?_⟩
    · by_cases c : i ∈ Ac b a
      · exact ⟨fun _ => c, fun _ => (k.2.1 c).1⟩
      · exact ⟨fun q => absurd q (by rw [(k.2.2 c).1]; decide), fun q => absurd q c⟩
    · by_cases c : i ∈ Ac b a
      · exact .inl (k.2.1 c).1
      · exact .inr (k.2.2 c).2
  refine Ny (Q1i _ _) hb fun z => ?_
  unfold Cp
  rw [Yq q _ (fun x hx => (hk x hx).elim fun i k => k.2.2.2) hn, Km]
  constructor
  · rintro (⟨x, hx, rfl, hc⟩ | ⟨h1, h2⟩)
    · obtain ⟨i, _, e, hi, _⟩ := hk x hx
      rw [e]; exact (minusZ_mem.1 (hi.1 hc)).1
    · by_cases hz : z ∈ b
      · exact hz
      · have hu : z ∈ A5 (Ac b a) (Ac a b) := unionZ_mem.2 (.inr (minusZ_mem.2 ⟨h1, hz⟩))
        have k := h (Ac b a) (Ac a b) z
        have hx := h2 (f (Ac b a) (Ac a b) z) ((hm _).2 (List.mem_map.2 ⟨z, hu, rfl⟩)) k.1
        rw [(k.2.2 fun c => hz (minusZ_mem.1 c).1).1] at hx; cases hx
  · intro hz
    by_cases ha : z ∈ a
    · refine .inr ⟨ha, fun x hx e => ?_⟩
      obtain ⟨i, hi, e', hc, _⟩ := hk x hx
      rw [e] at e'; subst e'
      rcases hi with hi | hi
      · exact absurd ha (minusZ_mem.1 hi).2
      · exact absurd hz (minusZ_mem.1 hi).2
    · have hc : z ∈ Ac b a := minusZ_mem.2 ⟨hz, ha⟩
      have k := h (Ac b a) (Ac a b) z
      exact .inl ⟨_, (hm _).2 (List.mem_map.2 ⟨z, unionZ_mem.2 (.inl hc), rfl⟩), k.1, (k.2.1 hc).1⟩
theorem Q3n : (Ez f a b).length = (A5 (Ac b a) (Ac a b)).length := by unfold Ez; rw [List.length_map]
end
def Xd (st : PoolT) (o : Int) : List UInt8 := (nth st.all o.toNat).1.name
def La (st : PoolT) (o : Int) : List UInt8 := (nth st.all o.toNat).1.evr
def Bu (st : PoolT) (id o : Int) : Bool := decide (Xd st o = Xd st id)
def Ee (m : Int → Int → List UInt8 → Int → List UInt8 → Bool × Int) (st : PoolT) (id o : Int) : Bool := (nth st.all o.toNat).1.obsoletes.any fun d => decide (id ∈ (Ed m st d).1)
def Fj (st : PoolT) (g : List Int) (id : Int) : Cd :=
  if 0 ≤ Bi (Bu st id) g then (nth [4, 5, 3] ((C6 st.kind (La st id) (La st (Bi (Bu st id) g))).1 + 1).toNat, id, Bi (Bu st id) g) else (1, id, Bi (Bu st id) g)
def goS (m : Int → Int → List UInt8 → Int → List UInt8 → Bool × Int) (st : PoolT) (c : List Int) (id : Int) : Cd :=
  if 0 ≤ Bi (Bu st id) c then (6, id, Bi (Bu st id) c) else if 0 ≤ Bi (Ee m st id) c then (7, id, Bi (Ee m st id) c) else (2, id, Bi (Ee m st id) c)
def B9 (m : Int → Int → List UInt8 → Int → List UInt8 → Bool × Int) (st : PoolT) (c g : List Int) (id : Int) : Cd := if id ∈ c then Fj st g id else goS m st c id
def Dy (st : PoolT) (id : Int) : Bool := decide (id < 0) || decide ((st.all.length : Int) ≤ id)
def D1 (m : Int → Int → List UInt8 → Int → List UInt8 → Bool × Int) (st : PoolT) (a b : List Int) : List Cd × Int := if a.any (Dy st) = true ∨ b.any (Dy st) = true then ([], 69) else (Ez (B9 m st) a b, 0)
theorem Q3s (m : Int → Int → List UInt8 → Int → List UInt8 → Bool × Int) (st : PoolT) : Tn (B9 m st) := by
  intro c g i
  refine ⟨?_, fun h => ?_, fun h => ?_⟩
  · unfold B9 Fj goS
    repeat' split
    all_goals rfl
  · unfold B9 Fj
    rw [if_pos h]
    split
    · have h1 := S9 st.kind (La st i) (La st (Bi (Bu st i) g))
      unfold Sgn at h1
      generalize (C6 st.kind (La st i) (La st (Bi (Bu st i) g))).1 = x at h1
      rcases (by omega : x = -1 ∨ x = 0 ∨ x = 1) with rfl | rfl | rfl <;> exact ⟨rfl, rfl⟩
    · exact ⟨rfl, rfl⟩
  · unfold B9 goS
    rw [if_neg h]
    repeat' split
    all_goals exact ⟨rfl, rfl⟩
theorem Qk {m : Int → Int → List UInt8 → Int → List UInt8 → Bool × Int} {st : PoolT} {a b : List Int} (ha : ∀ x ∈ a, 0 ≤ x ∧ x < st.all.length) (hb : ∀ x ∈ b, 0 ≤ x ∧ x < st.all.length) : D1 m st a b = (Ez (B9 m st) a b, 0) := by
  have k : ∀ l : List Int, (∀ x ∈ l, 0 ≤ x ∧ x < st.all.length) → l.any (Dy st) = false := fun l h => by
    rw [List.any_eq_false]
    intro x hx
    have := h x hx
    unfold Dy
    simp; omega
  unfold D1
  rw [k a ha, k b hb]; rfl
end Sv
end Go.Proofs.YtlfjokcbkopfeaaGreatDoor
end
section
namespace Go.Proofs.YtlfjokcbkopfeaaGreatDoor
open Go Go.RowKit
set_option linter.unusedSimpArgs false
set_option linter.unusedVariables false
namespace Sv
section
variable {P : Program} {n : Nat} {φ : Phi} {σ : Nat → Value}
theorem Q34 {dst : Option Tmp} {t : Nat} {X LO HI MX : Operand} {ty : TypeId} {ps : String} {af : Array Edge} {g : Option (Nat × Bool)} {e sz len i j m : Nat} {k1 k2 k3 : IntKind} {gf : Nat → AV} {s : Fr}
    (he : Fg P t = some e) (hs : tsz P e = some sz) (hx : evA s X = some (.row sz len gf)) (h1 : evA s LO = some (.int k1 (i : Int))) (h2 : evA s HI = some (.int k2 (j : Int))) (h3 : evA s MX = some (.int k3 (m : Int)))
    (hj : i < j) (hjm : j ≤ m) (hm : m ≤ len) (φ : Phi) (σ : Nat → Value) (h : FRel φ n s σ) :
    ∃ v, (∀ w, (execOp (ev n σ) ⟨dst, .slice t X (some LO) (some HI) (some MX), ty, ps, af, g⟩).run P w = .ok (.value v) w) ∧ VR φ (.row sz (j - i) (fun q => gf (i + q))) v := by
  have hx := h.ev _ _ hx
  have h1 := h.ev _ _ h1
  have h2 := h.ev _ _ h2
  have h3 := h.ev _ _ h3
  simp only [VR] at hx h1 h2 h3
  obtain ⟨u, hu, hr⟩ := hx
  rcases hr with ⟨h0, _⟩ | ⟨b, o, c, hv, hmc, hl⟩
  · omega
  · have hb := fun w => G8 (P := P) (isS := true) (len := len) (cap := c) (i := i) (j := j) (m := m) (lo := some (.int k1 (i : Int))) (hi := some (.int k2 (j : Int))) (mx := some (.int k3 (m : Int))) (.inr ⟨_, rfl⟩) (.inr ⟨_, rfl⟩) (.inr ⟨⟨_, rfl⟩, by simp⟩) (by omega) (by omega) (by omega) w
    refine ⟨.slice (some (if m = i then ⟨b, o, none⟩ else (⟨b, o, none⟩ : Addr).add (i * sz))) (j - i) (m - i), fun w => ?_, ?_⟩
    · simp only [execOp, Instr.sliceAt, Instr.slice, Sem.run_bind, Sem.run_pure, run_underlying (Ei he), Result.andThen_ok, hv, hb, Cr hs, Option.map_some, h1, h2, h3] <;> (try split) <;> rfl
    · simp only [VR]
      refine ⟨fun q => u (i + q), fun q hq => hu _ (by omega), .inr ⟨b, o + i * sz, m - i, by rw [if_neg (by omega), D5], by omega, fun q hq => ?_⟩⟩
      have := hl (i + q) (by omega)
      refine ⟨this.1, ?_⟩
      rw [show o + i * sz + q * sz = o + (i + q) * sz by rw [Nat.add_mul]; omega]
      exact this.2
end
end Sv
end Go.Proofs.YtlfjokcbkopfeaaGreatDoor
end
section
namespace Go.Proofs.YtlfjokcbkopfeaaGreatDoor
open Go Go.RowKit
namespace Sv
attribute [local irreducible] SW SO Bg
theorem Q9v : Am Tryz.prog 81 := Av Tryz.func81 (by kernel_rfl) rfl
theorem Sg : Am Tryz.prog 79 := Av Tryz.func79 (by kernel_rfl) rfl
theorem Q9y : Am Tryz.prog 76 := Av Tryz.func76 (by kernel_rfl) rfl
theorem Q9x : Am Tryz.prog 77 := Av Tryz.func77 (by kernel_rfl) rfl
theorem Q9u : Am Tryz.prog 82 := Av Tryz.func82 (by kernel_rfl) rfl
theorem Q9t : Am Tryz.prog 84 := Av Tryz.func84 (by kernel_rfl) rfl
theorem Je {p : PkgT} {n : Nat} (h : p.size ≤ n) : p.evr.length ≤ n ∧ p.obsoletes.length ≤ n ∧ ∀ i, i < p.obsoletes.length → (nth p.obsoletes i).size ≤ n := by
 have hz := p.sizes
 have h1 := Ew p.obsoletes
 unfold PkgT.depSize at hz
 refine ⟨by omega, by omega, fun i hi => ?_⟩
 have h2 := My (l := p.obsoletes) (i := i) hi
 omega
theorem Q1l (l : List Int) (v : Int) : (l.any fun x => decide (v = x)) = decide (v ∈ l) := by
 rw [Bool.eq_iff_iff]; simp
theorem Q61 {st : PoolT} (hi : IdxOk st) {d : DepT} : (Ed A6 st d).1.length ≤ 4611686018427387904 := by
 unfold Ed
 split
 ·exact Q7h hi
 ·simp
theorem Mi {x : Int} (h : 0 ≤ x) : x = ((x.toNat : Nat) : Int) := by omega
set_option maxHeartbeats 400000 in
set_option maxRecDepth 100000 in
theorem Q77  :
  FnV Tryz.prog 81 [] (Ap [4, 5, 3]) := by
 refine A1 [.tmp 0] Tryz.func81 rfl Tryz.ntmps81 rfl rfl (fun B F hF => ?_)
 refine Aa [] [] ?_
 refine Aa [] [1] ?_
 refine Ab ?_
 refine Ar ?_
 refine Bv 1 0 [] [3] [] hk0 v0 c0 ?_
 refine Q2c 3 (y := ⟨[(3, (.row 1 4 (fun ix => (Em 1 4 [(.int .i64 4), (.int .i64 5), (.int .i64 3), (.int .i64 6)]).getD ix Bl)))], [], 1⟩) (by kernel_rfl) ?_
 refine Gi 3 (Ap [4, 5, 3, 6]) (by kernel_rfl) (Imp.list (f := AV.int .i64) rfl) ?_
 refine M9 (s' := [(3, (Ap [4, 5, 3, 6])), (4, (.row 1 (3 - 0) (fun kx => Jb (Ap [4, 5, 3, 6]) (0 + kx))))]) (.row 1 (3 - 0) (fun kx => Jb (Ap [4, 5, 3, 6]) (0 + kx))) (by kernel_rfl) (Q34 (k1 := .i64) (k2 := .i64) (k3 := .i64) (e := 3) (i := 0) (j := 3) (m := 3) (len := [4, 5, 3, 6].length) (gf := Jb (Ap [4, 5, 3, 6])) (by kernel_rfl) (by kernel_rfl) (by kernel_rfl) (by kernel_rfl) (by kernel_rfl) (by kernel_rfl) (by decide) (by decide) (by simp)) (by kernel_rfl) ?_
 refine Aw 2 [] [0] [] hk0 v0 c0 ?_
 refine Af ?_
 refine RK wR [(.row 1 (3 - 0) (fun kx => Jb (Ap [4, 5, 3, 6]) (0 + kx)))] ?_
 simp only [Ah]
 exact (Imp.row fun i hi => Imp.of_eq (by rcases (by simpa using hi : i < 3) with h; rcases (by omega : i = 0 ∨ i = 1 ∨ i = 2) with rfl | rfl | rfl <;> rfl)).same
set_option maxHeartbeats 400000 in
set_option maxRecDepth 100000 in
theorem Sa (l : List Int) (a : AV) (p : Int → Bool) (hl : l.length ≤ 4611686018427387904) (ha : ∀ i, i < l.length → FunV Tryz.prog a [.int .i64 (nth l i)] (.bool (p (nth l i)))) :
  FnV Tryz.prog 79 [(Ap l), (.int .i64 (-1)), (.clo a)] (.int .i64 (Bi p l)) := by
 have hle := Ow p l
 refine A1 [.tmp 6] Tryz.func79 rfl Tryz.ntmps79 rfl rfl (fun B F hF => ?_)
 refine Aa [] [0, 1, 2] ?_
 refine Ab ?_
 refine Ad [] [0, 1, 7] [] (hk 2 Q0d (X3 l a p hl ha) <| hk0) v0 c0 ?_
 refine Aa [] [0, 1, 7, 12] ?_
 refine A2 (p := 0 ≤ (Cj p l)) (by kernel_rfl) (fun c1 => ?_) (fun c1 => ?_)
 ·refine Ad [] [6] [] hk0 v0 (cc 2 (p := (0 ≤ Cj p l ∧ (Cj p l : Int).toNat < l.length)) (by first | omega | (simp; omega) | (simp; done) | (intros; simp_all; omega) | (intros; simp_all; done)) <| c0) ?_
  refine Af ?_
  refine RK wR [(.int .i64 (nth l ((Cj p l : Int).toNat)))] ?_
  exact Same.of_eq (by simp only [Ah]; unfold Bi; rw [if_pos (by simp_all)])
 ·refine Ag ?_
  refine Aa [] [6] ?_
  refine Af ?_
  refine RK wR [(.int .i64 (-1))] ?_
  exact Same.of_eq (by simp only [Ah]; unfold Bi; rw [if_neg (by simp_all)])
set_option maxHeartbeats 400000 in
set_option maxRecDepth 100000 in
theorem Q6x (st : PoolT) (id : Int) :
  FnV Tryz.prog 76 [(.int .i64 id), (.fp (.agg [(.fp (Bx st))]))] (.bool (Dy st id)) := by
 refine A1 [.tmp 3] Tryz.func76 rfl Tryz.ntmps76 rfl rfl (fun B F hF => ?_)
 refine Aa [] [0, 1] ?_
 obtain ⟨b1, hb1⟩ : ∃ b, b = (decide (id < 0)) := ⟨_, rfl⟩
 refine Ad (CS := [(5, (!b1) = true → (!b1) = true), (6, ((!b1) = true → (!b1) = true ∧ (!b1) = true)), (7, (b1 = false → (!b1) = true))]) [7, 8, 10] [3] [] (hkg 5 (!b1) Zl (fun cg => Q2r st) <| hk0) (vk 3 6 (a := .bool (decide (id < 0))) (b := .bool b1) (Imp.of_eq (by rw [hb1])) <| v0) (by refine cc _ ?_ <| cc _ ?_ <| cc _ ?_ c0 <;> first | omega | (simp; omega) | (simp; done) | (intros; simp_all; omega) | (intros; simp_all; done)) ?_
 refine Af ?_
 refine RK wR [(.bool (b1 || (decide ((st.all.length : Int) ≤ id))))] ?_
 subst hb1
 exact Same.of_eq (by simp only [Ah]; rfl)
set_option maxHeartbeats 400000 in
set_option maxRecDepth 100000 in
theorem Q7j (st : PoolT) (hi : IdxOk st) (id : Int) (o : Nat) (ho : o < st.all.length) :
  FnV Tryz.prog 77 [(.int .i64 ((o : Int))), (.fp (.agg [(.fp (Bx st))])), (.fp (Aq ((nth st.all id.toNat).1)))] (.bool (Bu st id (o : Int))) := by
 refine A1 [.tmp 4] Tryz.func77 rfl Tryz.ntmps77 rfl rfl (fun B F hF => ?_)
 refine Aa [] [0, 1, 2] ?_
 refine Ad [] [2, 5] [(9, 5)] (hk 2 Ms (Na st o ho (hi.2 o ho)) <| hk0) v0 c0 ?_
 refine Aa [] [4] ?_
 refine Af ?_
 refine RK wR [(.bool (decide (((nth st.all o).1).name = ((nth st.all id.toNat).1).name)))] ?_
 exact Same.of_eq (by simp only [Ah]; rfl)
set_option maxHeartbeats 400000 in
set_option maxRecDepth 100000 in
theorem Q63 (st : PoolT) (hi : IdxOk st) (id : Int) (d : DepT) (hd : d.size ≤ 4194304) :
  FnV Tryz.prog 84 [(.agg [(.int .i64 d.kind), (.str d.name), (.int .i64 d.op), (.str d.evr), (.row 5 d.args.length (depAt d.args))]), (.fp (.agg [(.fp (Cw st))])), (.fp (.agg [(.int .i64 id)]))] (.bool (decide (id ∈ (Ed A6 st d).1))) := by
 refine A1 [.tmp 4] Tryz.func84 rfl Tryz.ntmps84 rfl rfl (fun B F hF => ?_)
 refine Ad [] [1, 2, 3] [(1, 3)] hk0 v0 c0 ?_
 refine Ad [] [2, 5] [] (hk 2 X05 (X4p A6 Q7v st hi d hd) <| hk0) v0 c0 ?_
 refine Ad [] [4] [] (hk 2 Zc ((Q0t (Ed A6 st d).1 id (Q61 hi)).to (Same.of_eq (by rw [Q1l]))) <| hk0) v0 c0 ?_
 refine Af ?_
 refine RK wR [(.bool (decide (id ∈ (Ed A6 st d).1)))] ?_
 exact Same.of_eq (by first | rfl | (simp only [Ah]; simp_all))
theorem Q64 (st : PoolT) (hi : IdxOk st) (id : Int) (d : DepT) (hd : d.size ≤ 4194304) : FunV Tryz.prog (.fn 84 [] [.fp (.agg [(.fp (Cw st))]), .fp (.agg [.int .i64 id])]) [(.agg [(.int .i64 (d.kind)), (.str (d.name)), (.int .i64 (d.op)), (.str (d.evr)), (.row 5 d.args.length (depAt d.args))])] (.bool (decide (id ∈ (Ed A6 st d).1))) := FunV.of (by exact Q9t) (Q63 st hi id d hd)
set_option maxHeartbeats 400000 in
set_option maxRecDepth 100000 in
theorem Q65 (st : PoolT) (hi : IdxOk st) (id : Int) (o : Nat) (ho : o < st.all.length) :
  FnV Tryz.prog 82 [(.int .i64 ((o : Int))), (.fp (.agg [(.fp (Bx st))])), (.fp (.agg [(.fp (Cw st))])), (.fp (.agg [(.int .i64 id)]))] (.bool (Ee A6 st id (o : Int))) := by
 have hlz := Je (hi.2 o ho)
 refine A1 [.tmp 5] Tryz.func82 rfl Tryz.ntmps82 rfl rfl (fun B F hF => ?_)
 refine Aa [] [0, 1, 2, 3] ?_
 refine Ad [] [2, 3, 6] [(9, 6)] (hk 2 Ms (Na st o ho (hi.2 o ho)) <| hk0) v0 c0 ?_
 refine Ab ?_
 refine Ar ?_
 refine Bv 3 0 [] [17, 18] [] hk0 v0 c0 ?_
 refine Tu (s' := [(17, (Ai 5 A9 (((nth st.all o).1).obsoletes))), (18, (.fn 84 [] [(.fp (.agg [(.fp (Cw st))])), (.fp (.agg [(.int .i64 id)]))])), (19, (.bool ((nth st.all o).1.obsoletes.any fun d => decide (id ∈ (Ed A6 st d).1))))]) (al := [(Ai 5 A9 (((nth st.all o).1).obsoletes)), (.fn 84 [] [(.fp (.agg [(.fp (Cw st))])), (.fp (.agg [(.int .i64 id)]))])]) (al' := [(Ai 5 A9 (((nth st.all o).1).obsoletes)), (.fn 84 [] [(.fp (.agg [(.fp (Cw st))])), (.fp (.agg [(.int .i64 id)]))])]) (h' := []) (r := (.bool ((nth st.all o).1.obsoletes.any fun d => decide (id ∈ (Ed A6 st d).1)))) (by kernel_rfl) (by exact Zb) (by kernel_rfl) (by kernel_rfl) ((Q0m (nth st.all o).1.obsoletes (.fn 84 [] [(.fp (.agg [(.fp (Cw st))])), (.fp (.agg [(.int .i64 id)]))]) (fun d => decide (id ∈ (Ed A6 st d).1)) (by omega) (fun i hj => Q64 st hi id _ (hlz.2.2 i hj))).of_args (ImpL.cons Imp.refl (ImpL.cons (Imp.clo (by kernel_rfl)) ImpL.nil))) rfl (by kernel_rfl) ?_
 refine Aw 4 [] [5] [] hk0 v0 c0 ?_
 refine Af ?_
 refine RK wR [(.bool ((nth st.all o).1.obsoletes.any fun d => decide (id ∈ (Ed A6 st d).1)))] ?_
 exact Same.of_eq (by simp only [Ah]; rfl)
theorem W3 (st : PoolT) (id : Int) : FunV Tryz.prog (.fn 76 [] [.fp (.agg [(.fp (Bx st))])]) [.int .i64 id] (.bool (Dy st id)) := FunV.of (by exact Q9y) (Q6x st id)
theorem Xc (st : PoolT) (hi : IdxOk st) (id o : Int) (ho : 0 ≤ o ∧ o < st.all.length) : FunV Tryz.prog (.fn 77 [] [.fp (.agg [(.fp (Bx st))]), .fp (Aq ((nth st.all id.toNat).1))]) [.int .i64 o] (.bool (Bu st id o)) := by
 obtain ⟨n, rfl⟩ := Int.eq_ofNat_of_zero_le ho.1
 exact FunV.of (by exact Q9x) (Q7j st hi id n (by omega))
theorem Q66 (st : PoolT) (hi : IdxOk st) (id o : Int) (ho : 0 ≤ o ∧ o < st.all.length) : FunV Tryz.prog (.fn 82 [] [.fp (.agg [(.fp (Bx st))]), .fp (.agg [(.fp (Cw st))]), .fp (.agg [.int .i64 id])]) [.int .i64 o] (.bool (Ee A6 st id o)) := by
 obtain ⟨n, rfl⟩ := Int.eq_ofNat_of_zero_le ho.1
 exact FunV.of (by exact Q9u) (Q65 st hi id n (by omega))
end Sv
end Go.Proofs.YtlfjokcbkopfeaaGreatDoor
end
section
namespace Go.Proofs.YtlfjokcbkopfeaaGreatDoor
open Go Go.RowKit
namespace Sv
attribute [local irreducible] SW SO Bg
theorem Q9w : Am Tryz.prog 80 := Av Tryz.func80 (by kernel_rfl) rfl
theorem Zo : Am Tryz.prog 29 := Av Tryz.func29 (by kernel_rfl) rfl
theorem Zp : Am Tryz.prog 27 := Av Tryz.func27 (by kernel_rfl) rfl
def Bs (q : Cd) : AV := .agg [.int .i64 q.1, .int .i64 q.2.1, .int .i64 q.2.2]
theorem Lz {u : List Int} {f : Int → Cd} {i : Nat} {x : Cd} (h : i < u.length) (e : f (nth u i) = x) : ((u.take (i + 1)).map f).map Bs = ((u.take i).map f).map Bs ++ [Bs x] := by
 rw [Kf h, List.map_append, List.map_append]
 simp [e]
theorem Lj {l : List Int} {q : List Cd} {i : Nat} (h : i < q.length) : Cp l (q.take (i + 1)) = Dq (Cp l (q.take i)) (nth q i) := by rw [Kf h, X2z]
theorem Q1m {st : PoolT} {l : List Int} (h : ¬ l.any (Dy st) = true) : ∀ x ∈ l, 0 ≤ x ∧ x < st.all.length := by
 intro x hx
 have h : l.any (Dy st) = false := by simpa using h
 rw [List.any_eq_false] at h
 have := h x hx
 unfold Dy at this
 simp at this
 omega
theorem Ma {l : List Int} {i : Nat} (h : i < l.length) : nth l i ∈ l := by rw [Es h]; exact List.getElem_mem h
theorem Xj {l : List Int} {x : Int} (h : x ∈ l) : ∃ i, i < l.length ∧ nth l i = x := by
 obtain ⟨i, hi, e⟩ := List.getElem_of_mem h
 exact ⟨i, hi, by rw [Es hi, e]⟩
theorem Xe {st : PoolT} {a b : List Int} (h : ∀ x ∈ a, 0 ≤ x ∧ x < st.all.length) : ∀ j, j < (Ac a b).length → 0 ≤ nth (Ac a b) j ∧ nth (Ac a b) j < st.all.length := fun j hj => h _ (minusZ_mem.1 (Ma hj)).1
theorem Q25 {st : PoolT} {a b : List Int} (h : ∀ j, j < a.length → 0 ≤ nth a j ∧ nth a j < st.all.length) (k : ∀ j, j < b.length → 0 ≤ nth b j ∧ nth b j < st.all.length) : ∀ j, j < (A5 a b).length → 0 ≤ nth (A5 a b) j ∧ nth (A5 a b) j < st.all.length := fun j hj => by
 rcases unionZ_mem.1 (Ma hj) with q | q
 ·obtain ⟨n, hn, e⟩ := Xj q
  rw [← e]; exact h n hn
 ·obtain ⟨n, hn, e⟩ := Xj q
  rw [← e]; exact k n hn
theorem Y0 {st : PoolT} {p : Int → Bool} {l : List Int} (h : ∀ j, j < l.length → 0 ≤ nth l j ∧ nth l j < st.all.length) (k : 0 ≤ Bi p l) : 0 ≤ Bi p l ∧ Bi p l < st.all.length := by
 unfold Bi at k ⊢
 have := Ow p l
 split at k
 ·rename_i q
  rw [if_pos q]; exact h _ (by omega)
 ·omega
theorem Ky (a b : List Int) : (Ac a b).length ≤ a.length := Nat.le_trans (Hv _) (List.length_filter_le _ _)
theorem T9 (a b : List Int) : (A5 a b).length ≤ a.length + b.length := by have := Hv (a ++ b); rw [List.length_append] at this; exact this
set_option maxHeartbeats 2000000 in
set_option maxRecDepth 100000 in
theorem Q16 (st : PoolT) (hi : IdxOk st) (a b : List Int) (ha : a.length ≤ 2097152) (hb : b.length ≤ 2097152) :
  FnV Tryz.prog 29 [(.fp (Bx st)), (Ap a), (Ap b)] (.tup [Ai 3 Bs (D1 A6 st a b).1, .int .i64 (D1 A6 st a b).2]) := by
 have hcl := Ky b a
 have hgl := Ky a b
 have hul := T9 (Ac b a) (Ac a b)
 refine A1 [.tmp 6, .tmp 7] Tryz.func29 rfl Tryz.ntmps29 rfl rfl (fun B F hF => ?_)
 refine Ad [] [1, 2, 3] [(1, 3)] hk0 v0 c0 ?_
 refine Ab ?_
 refine Aa [] [1, 2, 3, 26] ?_
 refine D6 (by kernel_rfl) ?_
 refine Ag ?_
 refine Aa [] [1, 2, 3, 8] ?_
 refine Ab ?_
 refine Ab ?_
 refine Ar ?_
 refine Bv 2 0 [] [1, 2, 3, 8, 28, 29] [] hk0 v0 c0 ?_
 refine Tu (s' := [(1, (Ap a)), (2, (Ap b)), (3, (.fp (.agg [(.fp (Bx st))]))), (8, (.fn 76 [] [(.fp (.agg [(.fp (Bx st))]))])), (28, (Ap a)), (29, (.fn 76 [] [(.fp (.agg [(.fp (Bx st))]))])), (30, (.bool (a.any (Dy st))))]) (al := [(Ap a), (.fn 76 [] [(.fp (.agg [(.fp (Bx st))]))])]) (al' := [(Ap a), (.fn 76 [] [(.fp (.agg [(.fp (Bx st))]))])]) (h' := []) (r := (.bool (a.any (Dy st)))) (by kernel_rfl) (by exact Zh) (by kernel_rfl) (by kernel_rfl) ((X4 a (.fn 76 [] [(.fp (.agg [(.fp (Bx st))]))]) (Dy st) (by omega) (fun j hj => W3 st _)).of_args (ImpL.cons Imp.refl (ImpL.cons (Imp.clo (by kernel_rfl)) ImpL.nil))) rfl (by kernel_rfl) ?_
 obtain ⟨b1, hb1⟩ : ∃ b, b = (a.any (Dy st)) := ⟨_, rfl⟩
 refine Bv 1 3 [] [1, 2, 3, 8, 31] [] hk0 v0 c0 ?_
 refine Gi 31 (a := .bool (a.any (Dy st))) (.bool b1) (by kernel_rfl) (Imp.of_eq (by rw [hb1])) ?_
 refine Tg b1 (fun c1 => ?_) (fun c1 => ?_)
 ·refine Gi 31 (a := .bool b1) (.bool true) (by kernel_rfl) (Imp.of_eq (by rw [c1])) ?_
  refine Aw 4 [] [1, 2, 3, 35] [] hk0 v0 c0 ?_
  refine Gg (by kernel_rfl) ?_
  refine Aa [] [6, 7] ?_
  refine Af ?_
  refine RK wR [.nils, (.int .i64 69)] ?_
  subst hb1
  simp only [Ah]
  rw [show D1 A6 st a b = ([], 69) from by unfold D1; rw [if_pos (.inl c1)]]
  exact (Imp.tups (ImpL.cons Imp.nil (ImpL.cons Imp.refl ImpL.nil))).same
 ·refine Gi 31 (a := .bool b1) (.bool false) (by kernel_rfl) (Imp.of_eq (by rw [c1])) ?_
  refine Bv 2 4 [] [1, 2, 3, 31, 32, 33] [] hk0 v0 c0 ?_
  refine Tu (s' := [(1, (Ap a)), (2, (Ap b)), (3, (.fp (.agg [(.fp (Bx st))]))), (31, (.bool false)), (32, (Ap b)), (33, (.fn 76 [] [(.fp (.agg [(.fp (Bx st))]))])), (34, (.bool (b.any (Dy st))))]) (al := [(Ap b), (.fn 76 [] [(.fp (.agg [(.fp (Bx st))]))])]) (al' := [(Ap b), (.fn 76 [] [(.fp (.agg [(.fp (Bx st))]))])]) (h' := []) (r := (.bool (b.any (Dy st)))) (by kernel_rfl) (by exact Zh) (by kernel_rfl) (by kernel_rfl) ((X4 b (.fn 76 [] [(.fp (.agg [(.fp (Bx st))]))]) (Dy st) (by omega) (fun j hj => W3 st _)).of_args (ImpL.cons Imp.refl (ImpL.cons (Imp.clo (by kernel_rfl)) ImpL.nil))) rfl (by kernel_rfl) ?_
  refine Aw 7 [] [1, 2, 3, 35] [] hk0 v0 c0 ?_
  refine A3 (q := b.any (Dy st)) (by kernel_rfl) (fun c2 => ?_) (fun c2 => ?_)
  ·subst hb1
   try simp only [Bool.and_eq_true, Bool.or_eq_true, Bool.and_eq_false_iff, Bool.or_eq_false_iff, Bool.not_eq_true', Bool.not_eq_false', decide_eq_true_eq, decide_eq_false_iff_not] at c2
   refine Aa [] [6, 7] ?_
   refine Af ?_
   refine RK wR [.nils, (.int .i64 69)] ?_
   simp only [Ah]
   rw [show D1 A6 st a b = ([], 69) from by unfold D1; rw [if_pos (.inr c2)]]
   exact (Imp.tups (ImpL.cons Imp.nil (ImpL.cons Imp.refl ImpL.nil))).same
  ·subst hb1
   try simp only [Bool.and_eq_true, Bool.or_eq_true, Bool.and_eq_false_iff, Bool.or_eq_false_iff, Bool.not_eq_true', Bool.not_eq_false', decide_eq_true_eq, decide_eq_false_iff_not] at c2
   have hra := Q1m (st := st) (l := a) (by rw [c1]; simp)
   have hrb := Q1m (st := st) (l := b) (by rw [c2]; simp)
   have hcr := Xe (b := a) hrb
   have hgr := Xe (b := b) hra
   have hur := Q25 hcr hgr
   refine Ag ?_
   refine Ad [] [3, 9, 10] [] (hk 2 Sm (R2 b a (by omega) (by first | omega | simp)) <| hk 5 Sm (R2 a b (by omega) (by first | omega | simp)) <| hk0) v0 c0 ?_
   refine Ad [] [3, 9, 10, 11] [] (hk 1 X1o (Q56 st hi.1 hi.2) <| hk0) v0 c0 ?_
   refine Ad [] [3, 9, 10, 11, 12] [(0, 11)] hk0 v0 c0 ?_
   refine Ab ?_
   refine Ad [] [3, 9, 10, 11, 12, 46, 47, 48] [] (hk 2 Zd (Ye (Ac b a) (Ac a b) (by omega) (by first | omega | simp)) <| hk0) v0 c0 ?_
   refine A0 ?_
   refine Pw 64 3 12 (y := ⟨[(3, (.fp (.agg [(.fp (Bx st))]))), (9, (Ap (Ac b a))), (10, (Ap (Ac a b))), (11, (.fp (.agg [(.fp (Cw st))]))), (12, (.own 2)), (46, (Ap (A5 (Ac b a) (Ac a b)))), (47, (.int .i64 (((A5 (Ac b a) (Ac a b)).length : Int)))), (48, (.int .i64 0))], [(2, (.grow [] 64 3))], 3⟩) (by kernel_rfl) (by kernel_rfl) ?_
   refine Bq (fun g y => ∃ (i : Nat), i ≤ (A5 (Ac b a) (Ac a b)).length ∧ y = ⟨[(3, (.fp (.agg [(.fp (Bx st))]))), (9, (Ap (Ac b a))), (10, (Ap (Ac a b))), (11, (.fp (.agg [(.fp (Cw st))]))), (12, (.own 2)), (46, (Ap (A5 (Ac b a) (Ac a b)))), (47, (.int .i64 (((A5 (Ac b a) (Ac a b)).length : Int)))), (48, (.int .i64 ((i : Int))))], [(2, (.grow ((((A5 (Ac b a) (Ac a b)).take i).map (B9 A6 st (Ac b a) (Ac a b))).map Bs) 64 3))], 3⟩ ∧ g = (A5 (Ac b a) (Ac a b)).length - i) [3, 9, 10, 11, 12, 46, 47, 48] 3 _ (by omega) ⟨0, (by omega), (by kernel_rfl), rfl⟩ ?_
   rintro g1 y1 ⟨i, f1_1, rfl, rfl⟩
   refine Aa [] [3, 9, 10, 11, 12, 46, 47, 48, 49] ?_
   refine Ab ?_
   refine A2 (p := (i : Int) < ((A5 (Ac b a) (Ac a b)).length : Int)) (by kernel_rfl) (fun c3 => ?_) (fun c3 => ?_)
   ·have hui := hur i (by omega)
    have hpl := Je (hi.2 (nth (A5 (Ac b a) (Ac a b)) i).toNat (by omega))
    refine Ag ?_
    refine Ab ?_
    refine A0 ?_
    refine Ad [] [3, 9, 10, 11, 12, 14, 46, 47, 48] [] hk0 v0 (cc 0 (p := (0 ≤ (i : Int) ∧ i < (A5 (Ac b a) (Ac a b)).length)) (by first | omega | (simp; omega) | (simp; done) | (intros; simp_all; omega) | (intros; simp_all; done)) <| c0) ?_
    refine Ad [] [3, 9, 10, 11, 12, 14, 15, 46, 47, 48] [(0, 14), (9, 15)] (hk 2 (al := [(.fp (Bx st)), (.int .i64 (nth (A5 (Ac b a) (Ac a b)) i))]) Ms ((Na st (nth (A5 (Ac b a) (Ac a b)) i).toNat (by omega) (hi.2 _ (by omega))).of_args (ImpL.cons Imp.refl (ImpL.cons (Imp.of_eq (congrArg (AV.int .i64) (Mi hui.1))) ImpL.nil))) <| hk0) v0 c0 ?_
    refine Aa [] [3, 9, 10, 11, 12, 14, 15, 18, 46, 47, 48] ?_
    refine Aa [] [3, 9, 10, 11, 12, 14, 15, 18, 19, 46, 47, 48] ?_
    refine Ab ?_
    refine Ad [] [3, 9, 10, 11, 12, 14, 15, 18, 19, 46, 47, 48, 64] [] (hk 2 Zc ((Q0t (Ac b a) (nth (A5 (Ac b a) (Ac a b)) i) (by omega)).to (Same.of_eq (by rw [Q1l]))) <| hk0) v0 c0 ?_
    refine A2 (p := nth (A5 (Ac b a) (Ac a b)) i ∈ (Ac b a)) (by kernel_rfl) (fun c4 => ?_) (fun c4 => ?_)
    ·refine Aa [] [3, 9, 10, 11, 12, 15, 18, 19, 46, 47, 48] ?_
     refine Ab ?_
     refine Ad [] [3, 9, 10, 11, 12, 15, 19, 46, 47, 48] [] (hk 2 (al := [(Ap (Ac a b)), (.int .i64 (-1)), (.fn 77 [] [(.fp (.agg [(.fp (Bx st))])), (.fp (Aq ((nth st.all ((nth (A5 (Ac b a) (Ac a b)) i).toNat)).1)))])]) Sg ((Sa (Ac a b) (.fn 77 [] [(.fp (.agg [(.fp (Bx st))])), (.fp (Aq ((nth st.all ((nth (A5 (Ac b a) (Ac a b)) i).toNat)).1)))]) (Bu st (nth (A5 (Ac b a) (Ac a b)) i)) (by omega) (fun j hj => Xc st hi (nth (A5 (Ac b a) (Ac a b)) i) _ (hgr j hj))).of_args (ImpL.cons Imp.refl (ImpL.cons Imp.refl (ImpL.cons (Imp.clo (by kernel_rfl)) ImpL.nil)))) <| hk0) v0 c0 ?_
     refine Aa [] [3, 9, 10, 11, 12, 15, 19, 46, 47, 48, 72] ?_
     refine A2 (p := 0 ≤ (Bi (Bu st (nth (A5 (Ac b a) (Ac a b)) i)) (Ac a b))) (by kernel_rfl) (fun c5 => ?_) (fun c5 => ?_)
     ·have hfo := Y0 hgr c5
      have hpo := Je (hi.2 (Bi (Bu st (nth (A5 (Ac b a) (Ac a b)) i)) (Ac a b)).toNat (by omega))
      have hcm := S9 st.kind (nth st.all (nth (A5 (Ac b a) (Ac a b)) i).toNat).1.evr (nth st.all (Bi (Bu st (nth (A5 (Ac b a) (Ac a b)) i)) (Ac a b)).toNat).1.evr
      unfold Sgn at hcm
      refine Ad [] [3, 9, 10, 11, 12, 15, 19, 20, 46, 47, 48] [(10, 20)] (hk 3 (al := [(.fp (Bx st)), (.int .i64 ((Bi (Bu st (nth (A5 (Ac b a) (Ac a b)) i)) (Ac a b))))]) Ms ((Na st (Bi (Bu st (nth (A5 (Ac b a) (Ac a b)) i)) (Ac a b)).toNat (by omega) (hi.2 _ (by omega))).of_args (ImpL.cons Imp.refl (ImpL.cons (Imp.of_eq (congrArg (AV.int .i64) (Mi hfo.1))) ImpL.nil))) <| hk0) v0 c0 ?_
      refine Cn [] [3, 9, 10, 11, 12, 19, 23, 46, 47, 48] [] (hk 1 Zm (Q2s st) <| hk 6 Q9w (X12 st.kind (((nth st.all ((nth (A5 (Ac b a) (Ac a b)) i).toNat)).1).evr) (((nth st.all ((Bi (Bu st (nth (A5 (Ac b a) (Ac a b)) i)) (Ac a b)).toNat)).1).evr) (by omega) (by omega)) <| hk0) v0 c0 ?_
      refine Ar ?_
      refine Aw (CS := [(2, (-9223372036854775808 ≤ ((C6 st.kind (((nth st.all ((nth (A5 (Ac b a) (Ac a b)) i).toNat)).1).evr) (((nth st.all ((Bi (Bu st (nth (A5 (Ac b a) (Ac a b)) i)) (Ac a b)).toNat)).1).evr)).1) + 1 ∧ ((C6 st.kind (((nth st.all ((nth (A5 (Ac b a) (Ac a b)) i).toNat)).1).evr) (((nth st.all ((Bi (Bu st (nth (A5 (Ac b a) (Ac a b)) i)) (Ac a b)).toNat)).1).evr)).1) + 1 ≤ 9223372036854775807)), (3, (0 ≤ ((C6 st.kind (((nth st.all ((nth (A5 (Ac b a) (Ac a b)) i).toNat)).1).evr) (((nth st.all ((Bi (Bu st (nth (A5 (Ac b a) (Ac a b)) i)) (Ac a b)).toNat)).1).evr)).1) + 1 ∧ (((C6 st.kind (((nth st.all ((nth (A5 (Ac b a) (Ac a b)) i).toNat)).1).evr) (((nth st.all ((Bi (Bu st (nth (A5 (Ac b a) (Ac a b)) i)) (Ac a b)).toNat)).1).evr)).1) + 1).toNat < [4, 5, 3].length))]) 0 [] [3, 9, 10, 11, 12, 19, 46, 47, 48] [] (hk 0 Q9v Q77 <| hk0) v0 (by refine cc _ ?_ <| cc _ ?_ c0 <;> first | omega | (simp; omega) | (simp; done) | (intros; simp_all; omega) | (intros; simp_all; done)) ?_
      refine Ad [] [3, 9, 10, 11, 12, 46, 47, 48] [] hk0 v0 (cc 3 (p := ((((((A5 (Ac b a) (Ac a b)).take i).map (B9 A6 st (Ac b a) (Ac a b))).map Bs).length + 1) * 24 ≤ 140737488355328)) (by first | omega | (simp; omega) | (simp; done) | (intros; simp_all; omega) | (intros; simp_all; done)) <| c0) ?_
      refine Bj ?_
      refine Ar ?_
      refine Aw 0 [] [3, 9, 10, 11, 12, 46, 47, 48] [] hk0 v0 (cc 0 (p := (-9223372036854775808 ≤ (i : Int) + 1 ∧ (i : Int) + 1 ≤ 9223372036854775807)) (by first | omega | (simp; omega) | (simp; done) | (intros; simp_all; omega) | (intros; simp_all; done)) <| c0) ?_
      refine ⟨by kernel_rfl, _, ?_, i + 1, ?_, (Eq.trans (b := (⟨[(3, (.fp (.agg [(.fp (Bx st))]))), (9, (Ap (Ac b a))), (10, (Ap (Ac a b))), (11, (.fp (.agg [(.fp (Cw st))]))), (12, (.own 2)), (46, (Ap (A5 (Ac b a) (Ac a b)))), (47, (.int .i64 (((A5 (Ac b a) (Ac a b)).length : Int)))), (48, (.int .i64 ((i : Int) + 1)))], [(2, (.grow (((((A5 (Ac b a) (Ac a b)).take i).map (B9 A6 st (Ac b a) (Ac a b))).map Bs) ++ ([(.agg [(.int .i64 (nth [4, 5, 3] ((((C6 st.kind (((nth st.all ((nth (A5 (Ac b a) (Ac a b)) i).toNat)).1).evr) (((nth st.all ((Bi (Bu st (nth (A5 (Ac b a) (Ac a b)) i)) (Ac a b)).toNat)).1).evr)).1) + 1).toNat))), (.int .i64 (nth (A5 (Ac b a) (Ac a b)) i)), (.int .i64 ((Bi (Bu st (nth (A5 (Ac b a) (Ac a b)) i)) (Ac a b))))])] : List AV)) 64 3))], 3⟩ : St)) (by kernel_rfl) (by rw [Lz (x := (nth [4, 5, 3] ((C6 st.kind (nth st.all (nth (A5 (Ac b a) (Ac a b)) i).toNat).1.evr (nth st.all (Bi (Bu st (nth (A5 (Ac b a) (Ac a b)) i)) (Ac a b)).toNat).1.evr).1 + 1).toNat, (nth (A5 (Ac b a) (Ac a b)) i), (Bi (Bu st (nth (A5 (Ac b a) (Ac a b)) i)) (Ac a b)))) (f := (B9 A6 st (Ac b a) (Ac a b))) (by omega) (by unfold B9 Fj; rw [if_pos c4, if_pos c5]; rfl)] <;> kernel_rfl)), rfl⟩
      ·omega
      ·omega
     ·refine Ag ?_
      refine Ad [] [3, 9, 10, 11, 12, 46, 47, 48] [] hk0 v0 (cc 3 (p := ((((((A5 (Ac b a) (Ac a b)).take i).map (B9 A6 st (Ac b a) (Ac a b))).map Bs).length + 1) * 24 ≤ 140737488355328)) (by first | omega | (simp; omega) | (simp; done) | (intros; simp_all; omega) | (intros; simp_all; done)) <| c0) ?_
      refine Bj ?_
      refine Ar ?_
      refine Aw 0 [] [3, 9, 10, 11, 12, 46, 47, 48] [] hk0 v0 (cc 0 (p := (-9223372036854775808 ≤ (i : Int) + 1 ∧ (i : Int) + 1 ≤ 9223372036854775807)) (by first | omega | (simp; omega) | (simp; done) | (intros; simp_all; omega) | (intros; simp_all; done)) <| c0) ?_
      refine ⟨by kernel_rfl, _, ?_, i + 1, ?_, (Eq.trans (b := (⟨[(3, (.fp (.agg [(.fp (Bx st))]))), (9, (Ap (Ac b a))), (10, (Ap (Ac a b))), (11, (.fp (.agg [(.fp (Cw st))]))), (12, (.own 2)), (46, (Ap (A5 (Ac b a) (Ac a b)))), (47, (.int .i64 (((A5 (Ac b a) (Ac a b)).length : Int)))), (48, (.int .i64 ((i : Int) + 1)))], [(2, (.grow (((((A5 (Ac b a) (Ac a b)).take i).map (B9 A6 st (Ac b a) (Ac a b))).map Bs) ++ ([(.agg [(.int .i64 1), (.int .i64 (nth (A5 (Ac b a) (Ac a b)) i)), (.int .i64 ((Bi (Bu st (nth (A5 (Ac b a) (Ac a b)) i)) (Ac a b))))])] : List AV)) 64 3))], 3⟩ : St)) (by kernel_rfl) (by rw [Lz (x := (1, (nth (A5 (Ac b a) (Ac a b)) i), (Bi (Bu st (nth (A5 (Ac b a) (Ac a b)) i)) (Ac a b)))) (f := (B9 A6 st (Ac b a) (Ac a b))) (by omega) (by unfold B9 Fj; rw [if_pos c4, if_neg c5])] <;> kernel_rfl)), rfl⟩
      ·omega
      ·omega
    ·refine Ag ?_
     refine Aa [] [3, 9, 10, 11, 12, 14, 18, 19, 46, 47, 48] ?_
     refine Ab ?_
     refine Ad [] [3, 9, 10, 11, 12, 14, 19, 46, 47, 48] [] (hk 2 (al := [(Ap (Ac b a)), (.int .i64 (-1)), (.fn 77 [] [(.fp (.agg [(.fp (Bx st))])), (.fp (Aq ((nth st.all ((nth (A5 (Ac b a) (Ac a b)) i).toNat)).1)))])]) Sg ((Sa (Ac b a) (.fn 77 [] [(.fp (.agg [(.fp (Bx st))])), (.fp (Aq ((nth st.all ((nth (A5 (Ac b a) (Ac a b)) i).toNat)).1)))]) (Bu st (nth (A5 (Ac b a) (Ac a b)) i)) (by omega) (fun j hj => Xc st hi (nth (A5 (Ac b a) (Ac a b)) i) _ (hcr j hj))).of_args (ImpL.cons Imp.refl (ImpL.cons Imp.refl (ImpL.cons (Imp.clo (by kernel_rfl)) ImpL.nil)))) <| hk0) v0 c0 ?_
     refine Aa [] [3, 9, 10, 11, 12, 14, 19, 46, 47, 48, 108] ?_
     refine A2 (p := (Bi (Bu st (nth (A5 (Ac b a) (Ac a b)) i)) (Ac b a)) < 0) (by kernel_rfl) (fun c6 => ?_) (fun c6 => ?_)
     ·refine Aa [] [3, 9, 10, 11, 12, 14, 19, 46, 47, 48] ?_
      refine Ar ?_
      refine Aw 0 [] [3, 9, 10, 11, 12, 19, 46, 47, 48] [] (hk 2 (al := [(Ap (Ac b a)), (.int .i64 (-1)), (.fn 82 [] [(.fp (.agg [(.fp (Bx st))])), (.fp (.agg [(.fp (Cw st))])), (.fp (.agg [(.int .i64 (nth (A5 (Ac b a) (Ac a b)) i))]))])]) Sg ((Sa (Ac b a) (.fn 82 [] [(.fp (.agg [(.fp (Bx st))])), (.fp (.agg [(.fp (Cw st))])), (.fp (.agg [(.int .i64 (nth (A5 (Ac b a) (Ac a b)) i))]))]) (Ee A6 st (nth (A5 (Ac b a) (Ac a b)) i)) (by omega) (fun j hj => Q66 st hi (nth (A5 (Ac b a) (Ac a b)) i) _ (hcr j hj))).of_args (ImpL.cons Imp.refl (ImpL.cons Imp.refl (ImpL.cons (Imp.clo (by kernel_rfl)) ImpL.nil)))) <| hk0) v0 c0 ?_
      refine Ab ?_
      refine Aa [] [3, 9, 10, 11, 12, 19, 46, 47, 48, 116] ?_
      refine A2 (p := (Bi (Ee A6 st (nth (A5 (Ac b a) (Ac a b)) i)) (Ac b a)) < 0) (by kernel_rfl) (fun c7 => ?_) (fun c7 => ?_)
      ·refine Ar ?_
       refine Ep [] [3, 9, 10, 11, 12, 19, 46, 47, 48] ?_
       refine Ar ?_
       refine Aw 0 [] [3, 9, 10, 11, 12, 46, 47, 48] [] hk0 v0 (cc 3 (p := ((((((A5 (Ac b a) (Ac a b)).take i).map (B9 A6 st (Ac b a) (Ac a b))).map Bs).length + 1) * 24 ≤ 140737488355328)) (by first | omega | (simp; omega) | (simp; done) | (intros; simp_all; omega) | (intros; simp_all; done)) <| c0) ?_
       refine Ar ?_
       refine Aw 0 [] [3, 9, 10, 11, 12, 46, 47, 48] [] hk0 v0 (cc 0 (p := (-9223372036854775808 ≤ (i : Int) + 1 ∧ (i : Int) + 1 ≤ 9223372036854775807)) (by first | omega | (simp; omega) | (simp; done) | (intros; simp_all; omega) | (intros; simp_all; done)) <| c0) ?_
       refine ⟨by kernel_rfl, _, ?_, i + 1, ?_, (Eq.trans (b := (⟨[(3, (.fp (.agg [(.fp (Bx st))]))), (9, (Ap (Ac b a))), (10, (Ap (Ac a b))), (11, (.fp (.agg [(.fp (Cw st))]))), (12, (.own 2)), (46, (Ap (A5 (Ac b a) (Ac a b)))), (47, (.int .i64 (((A5 (Ac b a) (Ac a b)).length : Int)))), (48, (.int .i64 ((i : Int) + 1)))], [(2, (.grow (((((A5 (Ac b a) (Ac a b)).take i).map (B9 A6 st (Ac b a) (Ac a b))).map Bs) ++ ([(.agg [(.int .i64 2), (.int .i64 (nth (A5 (Ac b a) (Ac a b)) i)), (.int .i64 ((Bi (Ee A6 st (nth (A5 (Ac b a) (Ac a b)) i)) (Ac b a))))])] : List AV)) 64 3))], 3⟩ : St)) (by kernel_rfl) (by rw [Lz (x := (2, (nth (A5 (Ac b a) (Ac a b)) i), (Bi (Ee A6 st (nth (A5 (Ac b a) (Ac a b)) i)) (Ac b a)))) (f := (B9 A6 st (Ac b a) (Ac a b))) (by omega) (by unfold B9 goS; rw [if_neg c4, if_neg (by omega), if_neg (by omega)])] <;> kernel_rfl)), rfl⟩
       ·omega
       ·omega
      ·refine Ag ?_
       refine Ar ?_
       refine Aw 0 [] [3, 9, 10, 11, 12, 46, 47, 48] [] hk0 v0 (cc 3 (p := ((((((A5 (Ac b a) (Ac a b)).take i).map (B9 A6 st (Ac b a) (Ac a b))).map Bs).length + 1) * 24 ≤ 140737488355328)) (by first | omega | (simp; omega) | (simp; done) | (intros; simp_all; omega) | (intros; simp_all; done)) <| c0) ?_
       refine Ar ?_
       refine Aw 0 [] [3, 9, 10, 11, 12, 46, 47, 48] [] hk0 v0 (cc 0 (p := (-9223372036854775808 ≤ (i : Int) + 1 ∧ (i : Int) + 1 ≤ 9223372036854775807)) (by first | omega | (simp; omega) | (simp; done) | (intros; simp_all; omega) | (intros; simp_all; done)) <| c0) ?_
       refine ⟨by kernel_rfl, _, ?_, i + 1, ?_, (Eq.trans (b := (⟨[(3, (.fp (.agg [(.fp (Bx st))]))), (9, (Ap (Ac b a))), (10, (Ap (Ac a b))), (11, (.fp (.agg [(.fp (Cw st))]))), (12, (.own 2)), (46, (Ap (A5 (Ac b a) (Ac a b)))), (47, (.int .i64 (((A5 (Ac b a) (Ac a b)).length : Int)))), (48, (.int .i64 ((i : Int) + 1)))], [(2, (.grow (((((A5 (Ac b a) (Ac a b)).take i).map (B9 A6 st (Ac b a) (Ac a b))).map Bs) ++ ([(.agg [(.int .i64 7), (.int .i64 (nth (A5 (Ac b a) (Ac a b)) i)), (.int .i64 ((Bi (Ee A6 st (nth (A5 (Ac b a) (Ac a b)) i)) (Ac b a))))])] : List AV)) 64 3))], 3⟩ : St)) (by kernel_rfl) (by rw [Lz (x := (7, (nth (A5 (Ac b a) (Ac a b)) i), (Bi (Ee A6 st (nth (A5 (Ac b a) (Ac a b)) i)) (Ac b a)))) (f := (B9 A6 st (Ac b a) (Ac a b))) (by omega) (by unfold B9 goS; rw [if_neg c4, if_neg (by omega), if_pos (by omega)])] <;> kernel_rfl)), rfl⟩
       ·omega
       ·omega
     ·refine Ag ?_
      refine Ab ?_
      refine Aa [] [3, 9, 10, 11, 12, 19, 46, 47, 48, 116] ?_
      refine A2 (p := (Bi (Bu st (nth (A5 (Ac b a) (Ac a b)) i)) (Ac b a)) < 0) (by kernel_rfl) (fun c8 => ?_) (fun c8 => ?_)
      ·exfalso; omega
      ·refine Ag ?_
       refine Ar ?_
       refine Aw 0 [] [3, 9, 10, 11, 12, 46, 47, 48] [] hk0 v0 (cc 3 (p := ((((((A5 (Ac b a) (Ac a b)).take i).map (B9 A6 st (Ac b a) (Ac a b))).map Bs).length + 1) * 24 ≤ 140737488355328)) (by first | omega | (simp; omega) | (simp; done) | (intros; simp_all; omega) | (intros; simp_all; done)) <| c0) ?_
       refine Ar ?_
       refine Aw 0 [] [3, 9, 10, 11, 12, 46, 47, 48] [] hk0 v0 (cc 0 (p := (-9223372036854775808 ≤ (i : Int) + 1 ∧ (i : Int) + 1 ≤ 9223372036854775807)) (by first | omega | (simp; omega) | (simp; done) | (intros; simp_all; omega) | (intros; simp_all; done)) <| c0) ?_
       refine ⟨by kernel_rfl, _, ?_, i + 1, ?_, (Eq.trans (b := (⟨[(3, (.fp (.agg [(.fp (Bx st))]))), (9, (Ap (Ac b a))), (10, (Ap (Ac a b))), (11, (.fp (.agg [(.fp (Cw st))]))), (12, (.own 2)), (46, (Ap (A5 (Ac b a) (Ac a b)))), (47, (.int .i64 (((A5 (Ac b a) (Ac a b)).length : Int)))), (48, (.int .i64 ((i : Int) + 1)))], [(2, (.grow (((((A5 (Ac b a) (Ac a b)).take i).map (B9 A6 st (Ac b a) (Ac a b))).map Bs) ++ ([(.agg [(.int .i64 6), (.int .i64 (nth (A5 (Ac b a) (Ac a b)) i)), (.int .i64 ((Bi (Bu st (nth (A5 (Ac b a) (Ac a b)) i)) (Ac b a))))])] : List AV)) 64 3))], 3⟩ : St)) (by kernel_rfl) (by rw [Lz (x := (6, (nth (A5 (Ac b a) (Ac a b)) i), (Bi (Bu st (nth (A5 (Ac b a) (Ac a b)) i)) (Ac b a)))) (f := (B9 A6 st (Ac b a) (Ac a b))) (by omega) (by unfold B9 goS; rw [if_neg c4, if_pos (by omega)])] <;> kernel_rfl)), rfl⟩
       ·omega
       ·omega
   ·refine Bj ?_
    refine Aa [] [6, 7] ?_
    refine Af ?_
    refine RK wR [(.row 3 ((((A5 (Ac b a) (Ac a b)).take i).map (B9 A6 st (Ac b a) (Ac a b))).map Bs).length (fun ix => ((((A5 (Ac b a) (Ac a b)).take i).map (B9 A6 st (Ac b a) (Ac a b))).map Bs).getD ix Bl)), (.int .i64 0)] ?_
    rw [show i = (A5 (Ac b a) (Ac a b)).length from by omega, List.take_length]
    simp only [Ah]
    rw [show D1 A6 st a b = ((A5 (Ac b a) (Ac a b)).map (B9 A6 st (Ac b a) (Ac a b)), 0) from by rw [Qk hra hrb]; rfl]
    exact (Imp.tups (ImpL.cons (Imp.list (f := Bs) (List.length_map _)) (ImpL.cons Imp.refl ImpL.nil))).same
set_option maxHeartbeats 1000000 in
set_option maxRecDepth 100000 in
theorem Q2v (a : List Int) (l : List Cd) (ha : a.length ≤ 1048576) (hl : l.length ≤ 2097152) :
  FnV Tryz.prog 27 [(Ap a), (Ai 3 Bs l)] (Ap (Cp a l)) := by
 refine A1 [.tmp 4] Tryz.func27 rfl Tryz.ntmps27 rfl rfl (fun B F hF => ?_)
 refine Aa [] [0, 1] ?_
 refine Ad [] [1, 5] [] (hk 1 Si (R1 a (by omega)) <| hk0) v0 c0 ?_
 refine Ab ?_
 refine Aa [] [5, 10, 11, 12] ?_
 refine A0 ?_
 refine Bq (fun g y => ∃ (i : Nat), i ≤ l.length ∧ y = ⟨[(5, (Ap (Cp a (l.take i)))), (10, (Ai 3 Bs l)), (11, (.int .i64 ((l.length : Int)))), (12, (.int .i64 ((i : Int))))], [], 0⟩ ∧ g = l.length - i) [5, 10, 11, 12] 0 _ (by omega) ⟨0, (by omega), (by kernel_rfl), rfl⟩ ?_
 rintro g1 y1 ⟨i, f1_1, rfl, rfl⟩
 have hal := Tj a (l.take i)
 have htl := List.length_take_le i l
 refine Aa [] [5, 10, 11, 12, 13] ?_
 refine Ab ?_
 refine A2 (p := (i : Int) < (l.length : Int)) (by kernel_rfl) (fun c1 => ?_) (fun c1 => ?_)
 ·refine Ag ?_
  refine Ab ?_
  refine A0 ?_
  refine Ad [] [5, 7, 10, 11, 12] [] hk0 v0 (cc 0 (p := (0 ≤ (i : Int) ∧ i < l.length)) (by first | omega | (simp; omega) | (simp; done) | (intros; simp_all; omega) | (intros; simp_all; done)) <| c0) ?_
  refine Ad [] [5, 7, 10, 11, 12, 17] [(0, 7)] hk0 v0 c0 ?_
  refine A0 ?_
  refine Da (fun y => ∃ (v : Bool), v = Dt (nth l i).1 ∧ y = ⟨[(5, (Ap (Cp a (l.take i)))), (7, (.fp (.agg [(.int .i64 ((nth l i).1)), (.int .i64 ((nth l i).2.1)), (.int .i64 ((nth l i).2.2))]))), (10, (Ai 3 Bs l)), (11, (.int .i64 ((l.length : Int)))), (12, (.int .i64 ((i : Int)))), (17, (.int .i64 ((nth l i).1))), (18, (.bool v))], [], 1⟩) [5, 7, 10, 11, 12, 17, 18] 1 (by omega) ?_ ?_
  ·refine Aa [] [5, 7, 10, 11, 12, 17, 18] ?_
   refine A2 (p := ((nth l i).1) = 1) (by kernel_rfl) (fun c2 => ?_) (fun c2 => ?_)
   ·refine Ag ?_
    refine ⟨by kernel_rfl, (decide (((nth l i).1) = 1)), ?_, (by kernel_rfl)⟩
    unfold Dt
    simp_all
   ·refine Aa [] [5, 7, 10, 11, 12, 17, 18] ?_
    refine A2 (p := ((nth l i).1) = 3) (by kernel_rfl) (fun c3 => ?_) (fun c3 => ?_)
    ·refine Ag ?_
     refine ⟨by kernel_rfl, (decide (((nth l i).1) = 3)), ?_, (by kernel_rfl)⟩
     unfold Dt
     simp_all
    ·refine Aa [] [5, 7, 10, 11, 12, 17, 18] ?_
     refine A2 (p := ((nth l i).1) = 4) (by kernel_rfl) (fun c4 => ?_) (fun c4 => ?_)
     ·refine Ag ?_
      refine ⟨by kernel_rfl, (decide (((nth l i).1) = 4)), ?_, (by kernel_rfl)⟩
      unfold Dt
      simp_all
     ·refine Ar ?_
      refine Ep [] [5, 7, 10, 11, 12, 17, 18] ?_
      refine ⟨by kernel_rfl, (decide (((nth l i).1) = 5)), ?_, (by kernel_rfl)⟩
      unfold Dt
      simp_all
  ·rintro y1 ⟨v, jv, rfl⟩
   refine A3 (q := v) (by kernel_rfl) (fun c5 => ?_) (fun c5 => ?_)
   ·try simp only [Bool.and_eq_true, Bool.or_eq_true, Bool.and_eq_false_iff, Bool.or_eq_false_iff, Bool.not_eq_true', Bool.not_eq_false', decide_eq_true_eq, decide_eq_false_iff_not] at c5
    refine Ar ?_
    refine Aw 0 [] [5, 10, 11, 12] [(4, 26)] (hk 4 Zd (Ye (Cp a (l.take i)) [(nth l i).2.1] (by omega) (by first | omega | simp)) <| hk0) (vk 4 26 (b := (Ap [(nth l i).2.1])) (Imp.list (f := AV.int .i64) rfl) <| v0) c0 ?_
    refine Ar ?_
    refine Aw 0 [] [5, 10, 11, 12] [] hk0 v0 (cc 0 (p := (-9223372036854775808 ≤ (i : Int) + 1 ∧ (i : Int) + 1 ≤ 9223372036854775807)) (by first | omega | (simp; omega) | (simp; done) | (intros; simp_all; omega) | (intros; simp_all; done)) <| c0) ?_
    refine ⟨by kernel_rfl, _, ?_, i + 1, ?_, (Eq.trans (b := (⟨[(5, (Ap (A5 (Cp a (l.take i)) [(nth l i).2.1]))), (10, (Ai 3 Bs l)), (11, (.int .i64 ((l.length : Int)))), (12, (.int .i64 ((i : Int) + 1)))], [], 0⟩ : St)) (by kernel_rfl) (by rw [Lj (by omega), Dq, if_pos (by rw [← jv]; exact c5)] <;> kernel_rfl)), rfl⟩
    ·omega
    ·omega
   ·try simp only [Bool.and_eq_true, Bool.or_eq_true, Bool.and_eq_false_iff, Bool.or_eq_false_iff, Bool.not_eq_true', Bool.not_eq_false', decide_eq_true_eq, decide_eq_false_iff_not] at c5
    refine Da (fun y => ∃ (u : Bool), u = Ff (nth l i).1 ∧ y = ⟨[(5, (Ap (Cp a (l.take i)))), (7, (.fp (.agg [(.int .i64 ((nth l i).1)), (.int .i64 ((nth l i).2.1)), (.int .i64 ((nth l i).2.2))]))), (10, (Ai 3 Bs l)), (11, (.int .i64 ((l.length : Int)))), (12, (.int .i64 ((i : Int)))), (28, (.bool u))], [], 1⟩) [5, 7, 10, 11, 12, 28] 1 (by omega) ?_ ?_
    ·refine Aa [] [5, 7, 10, 11, 12, 17, 28] ?_
     refine A2 (p := ((nth l i).1) = 2) (by kernel_rfl) (fun c6 => ?_) (fun c6 => ?_)
     ·refine Ag ?_
      refine ⟨by kernel_rfl, (decide (((nth l i).1) = 2)), ?_, (by kernel_rfl)⟩
      unfold Ff
      simp_all
     ·refine Aa [] [5, 7, 10, 11, 12, 17, 28] ?_
      refine A2 (p := ((nth l i).1) = 6) (by kernel_rfl) (fun c7 => ?_) (fun c7 => ?_)
      ·refine Ag ?_
       refine ⟨by kernel_rfl, (decide (((nth l i).1) = 6)), ?_, (by kernel_rfl)⟩
       unfold Ff
       simp_all
      ·refine Ar ?_
       refine Ep [] [5, 7, 10, 11, 12, 28] ?_
       refine ⟨by kernel_rfl, (decide (((nth l i).1) = 7)), ?_, (by kernel_rfl)⟩
       unfold Ff
       simp_all
    ·rintro y2 ⟨u, ju, rfl⟩
     refine A3 (q := u) (by kernel_rfl) (fun c8 => ?_) (fun c8 => ?_)
     ·try simp only [Bool.and_eq_true, Bool.or_eq_true, Bool.and_eq_false_iff, Bool.or_eq_false_iff, Bool.not_eq_true', Bool.not_eq_false', decide_eq_true_eq, decide_eq_false_iff_not] at c8
      refine Ar ?_
      refine Aw 0 [] [5, 10, 11, 12] [(4, 35)] (hk 4 Sm (R2 (Cp a (l.take i)) [(nth l i).2.1] (by omega) (by first | omega | simp)) <| hk0) (vk 4 35 (b := (Ap [(nth l i).2.1])) (Imp.list (f := AV.int .i64) rfl) <| v0) c0 ?_
      refine Ar ?_
      refine Aw 0 [] [5, 10, 11, 12] [] hk0 v0 (cc 0 (p := (-9223372036854775808 ≤ (i : Int) + 1 ∧ (i : Int) + 1 ≤ 9223372036854775807)) (by first | omega | (simp; omega) | (simp; done) | (intros; simp_all; omega) | (intros; simp_all; done)) <| c0) ?_
      refine ⟨by kernel_rfl, _, ?_, i + 1, ?_, (Eq.trans (b := (⟨[(5, (Ap (Ac (Cp a (l.take i)) [(nth l i).2.1]))), (10, (Ai 3 Bs l)), (11, (.int .i64 ((l.length : Int)))), (12, (.int .i64 ((i : Int) + 1)))], [], 0⟩ : St)) (by kernel_rfl) (by rw [Lj (by omega), Dq, if_neg (by rw [← jv, c5]; simp), if_pos (by rw [← ju]; exact c8)] <;> kernel_rfl)), rfl⟩
      ·omega
      ·omega
     ·try simp only [Bool.and_eq_true, Bool.or_eq_true, Bool.and_eq_false_iff, Bool.or_eq_false_iff, Bool.not_eq_true', Bool.not_eq_false', decide_eq_true_eq, decide_eq_false_iff_not] at c8
      refine Ag ?_
      refine Ar ?_
      refine Aw 0 [] [5, 10, 11, 12] [] hk0 v0 (cc 0 (p := (-9223372036854775808 ≤ (i : Int) + 1 ∧ (i : Int) + 1 ≤ 9223372036854775807)) (by first | omega | (simp; omega) | (simp; done) | (intros; simp_all; omega) | (intros; simp_all; done)) <| c0) ?_
      refine ⟨by kernel_rfl, _, ?_, i + 1, ?_, (Eq.trans (b := (⟨[(5, (Ap (Cp a (l.take i)))), (10, (Ai 3 Bs l)), (11, (.int .i64 ((l.length : Int)))), (12, (.int .i64 ((i : Int) + 1)))], [], 0⟩ : St)) (by kernel_rfl) (by rw [Lj (by omega), Dq, if_neg (by rw [← jv, c5]; simp), if_neg (by rw [← ju, c8]; simp)] <;> kernel_rfl)), rfl⟩
      ·omega
      ·omega
 ·refine Bj ?_
  refine Aa [] [4] ?_
  refine Af ?_
  refine RK wR [(Ap (Cp a (l.take i)))] ?_
  exact Same.of_eq (by simp only [Ah]; rw [show i = l.length from by omega, List.take_length])
end Sv
end Go.Proofs.YtlfjokcbkopfeaaGreatDoor
end
section
namespace Go.Proofs.YtlfjokcbkopfeaaGreatDoor
open Go Go.RowKit
namespace Sv
attribute [local irreducible] SW SO Bg
theorem Zn : Am Tryz.prog 30 := Av Tryz.func30 (by kernel_rfl) rfl
theorem X0i : Am Tryz.prog 26 := Av Tryz.func26 (by kernel_rfl) rfl
theorem Q3t {x y : Cd} (h1 : x.1 = y.1) (h2 : x.2.1 = y.2.1) (h3 : x.2.2 = y.2.2) : x = y := Prod.ext h1 (Prod.ext h2 h3)
theorem W4 {a : List Cd} {i : Nat} (h : i < a.length) : nth a i = a[i] := by simp [nth, h]
theorem Q4j {a b : List Cd} (hl : a.length = b.length) (h : ∀ j, j < a.length → nth a j = nth b j) : decide (a = b) = true := decide_eq_true (List.ext_getElem hl fun j h1 h2 => by
 have := h j h1
 rwa [W4 h1, W4 h2] at this)
theorem Q4k {a b : List Cd} {i : Nat} (h : ¬ nth a i = nth b i) : decide (a = b) = false := decide_eq_false fun e => h (by rw [e])
theorem Q4l {a b : List Cd} (h : ¬ a.length = b.length) : decide (a = b) = false := decide_eq_false fun e => h (by rw [e])
def twA : PkgT := ⟨[97], [49, 45, 49], [110, 111, 97, 114, 99, 104], [], [], [], [], [], [], [], [], []⟩
def twB : PkgT := ⟨[97], [50, 45, 49], [110, 111, 97, 114, 99, 104], [], [], [], [], [], [], [], [], []⟩
def twR : RepoT := ⟨[109, 97, 105, 110], 0, false, [twA, twB]⟩
def twX : Cd := (4, 0, 1)
def twY : Cd := (6, 1, 0)
def twT : List Cd := [twX, twY]
def twS : PoolT := (Ao (An 1) [twR]).1
def twP : List (Int × Int) := (Ao (An 1) [twR]).2
theorem Q3b : IdxOk twS := Q04 fun i hi => by
 have : i = 0 := by simpa using hi
 subst this
 decide
theorem Q3c : FnV Tryz.prog 9 [.int .i64 1, Ai 4 Bd [twR]] (.tup [.fp (Bx twS), .fp (Dh twS twP)]) := Q2p 1 [twR] (by decide) fun i hi => by
 have : i = 0 := by simpa using hi
 subst this
 decide
theorem Ub : twS.all.length = 2 := by kernel_rfl
theorem Ua : Ez (B9 A6 twS) [1] [0] = twT := by
 have h1 : Ac [0] [1] = [0] := (Kl (l := [0].filter fun z => !decide (z ∈ [1])) (k := [0]) ⟨by simp, trivial⟩ (by simp)).symm
 have h2 : Ac [1] [0] = [1] := (Kl (l := [1].filter fun z => !decide (z ∈ [0])) (k := [1]) ⟨by simp, trivial⟩ (by simp)).symm
 have h3 : A5 [0] [1] = [0, 1] := Qr (l := [0, 1]) ⟨by simp, by simp, trivial⟩
 unfold Ez
 rw [h1, h2, h3]
 have k1 : B9 A6 twS [0] [1] 0 = twX := by kernel_rfl
 have k2 : B9 A6 twS [0] [1] 1 = twY := by kernel_rfl
 rw [List.map_cons, List.map_cons, List.map_nil, k1, k2]; rfl
theorem Q29 : D1 A6 twS [1] [0] = (twT, 0) := by
 rw [Qk (by rw [Ub]; simp) (by rw [Ub]; simp), Ua]
theorem Q3a : Cp [1] twT = [0] := by
 rw [← Ua]; exact Q3o (b := [0]) (Q3s _ _) (show Cu [0] from ⟨by simp, trivial⟩) (List.Perm.refl _)
set_option maxHeartbeats 400000 in
set_option maxRecDepth 100000 in
theorem Vk (a b : List Cd) (ha : a.length ≤ 4611686018427) :
  FnV Tryz.prog 30 [(Ai 3 Bs a), (Ai 3 Bs b)] (.bool (decide (a = b))) := by
 refine A1 [.tmp 4] Tryz.func30 rfl Tryz.ntmps30 rfl rfl (fun B F hF => ?_)
 refine Aa [] [0, 1] ?_
 refine Ab ?_
 refine Aa [] [0, 1, 10] ?_
 refine Cm (p := (a.length : Int) = (b.length : Int)) (by kernel_rfl) (fun c1 => ?_) (fun c1 => ?_)
 ·refine Aa [] [4] ?_
  refine Af ?_
  refine RK wR [(.bool false)] ?_
  exact Same.of_eq (by rw [Q4l (by omega)]; rfl)
 ·refine Ag ?_
  refine Ab ?_
  refine Aa [] [0, 1, 5] ?_
  refine A0 ?_
  refine Bq (fun g y => ∃ (i : Nat), i ≤ a.length ∧ (∀ j, j < i → nth a j = nth b j) ∧ y = ⟨[(0, (Ai 3 Bs a)), (1, (Ai 3 Bs b)), (5, (.int .i64 ((i : Int))))], [], 0⟩ ∧ g = a.length - i) [0, 1, 5] 0 _ (by omega) ⟨0, (by omega), (by exact fun j hj => by omega), (by kernel_rfl), rfl⟩ ?_
  rintro g1 y1 ⟨i, f1_1, f1_2, rfl, rfl⟩
  refine Ab ?_
  refine Aa [] [0, 1, 5, 14] ?_
  refine A2 (p := (i : Int) < (a.length : Int)) (by kernel_rfl) (fun c2 => ?_) (fun c2 => ?_)
  ·refine Ag ?_
   refine Ab ?_
   refine A0 ?_
   refine Ab ?_
   refine I3 (by kernel_rfl) (fun F1 hF1 => ?_)
   refine Cs (fuel := 1) [] [0, 1, 2, 3, 4, 5, 6, 7] [0, 1, 5, 20, 24] (hold (p := (0 ≤ (i : Int) ∧ i < a.length) ∧ (0 ≤ (i : Int) ∧ i < b.length)) (by first | omega | (simp; omega) | (simp; done) | (intros; simp_all; omega) | (intros; simp_all; done))) ?_
   refine F4 (fuel := 0) 8 (by kernel_rfl) ?_
   refine C4 (fuel := 0) 8 rfl ?_
   refine M9 (s' := [(0, (Ai 3 Bs a)), (1, (Ai 3 Bs b)), (5, (.int .i64 ((i : Int)))), (20, (.agg [(.int .i64 ((nth a i).1)), (.int .i64 ((nth a i).2.1)), (.int .i64 ((nth a i).2.2))])), (24, (.agg [(.int .i64 ((nth b i).1)), (.int .i64 ((nth b i).2.1)), (.int .i64 ((nth b i).2.2))])), (25, (.bool (!(decide ((nth a i).1 = ((nth b i).1)) && (decide ((nth a i).2.1 = ((nth b i).2.1)) && (decide ((nth a i).2.2 = ((nth b i).2.2)) && true))))))]) (.bool (!(decide ((nth a i).1 = ((nth b i).1)) && (decide ((nth a i).2.1 = ((nth b i).2.1)) && (decide ((nth a i).2.2 = ((nth b i).2.2)) && true))))) (by kernel_rfl) (Q30 (l := [(.int .i64 ((nth a i).1)), (.int .i64 ((nth a i).2.1)), (.int .i64 ((nth a i).2.2))]) (m := [(.int .i64 ((nth b i).1)), (.int .i64 ((nth b i).2.1)), (.int .i64 ((nth b i).2.2))]) (r := decide ((nth a i).1 = ((nth b i).1)) && (decide ((nth a i).2.1 = ((nth b i).2.1)) && (decide ((nth a i).2.2 = ((nth b i).2.2)) && true))) (.inl (by kernel_rfl)) (.inl (by kernel_rfl)) (by kernel_rfl) (by kernel_rfl) (by kernel_rfl) (by kernel_rfl)) (by kernel_rfl) ?_
   refine B2 ⟨rfl, ?_⟩
   refine Ax [0, 1, 5, 25] ?_
   refine Gj (by kernel_rfl) ?_
   refine A3 (q := !(decide ((nth a i).1 = ((nth b i).1)) && (decide ((nth a i).2.1 = ((nth b i).2.1)) && (decide ((nth a i).2.2 = ((nth b i).2.2)) && true)))) (by kernel_rfl) (fun c3 => ?_) (fun c3 => ?_)
   ·try simp only [Bool.and_eq_true, Bool.or_eq_true, Bool.and_eq_false_iff, Bool.or_eq_false_iff, Bool.not_eq_true', Bool.not_eq_false', decide_eq_true_eq, decide_eq_false_iff_not] at c3
    refine Aa [] [4] ?_
    refine Af ?_
    refine RK wR [(.bool false)] ?_
    exact Same.of_eq (by rw [Q4k (i := i) (by intro e; rw [e] at c3; simp at c3)]; rfl)
   ·try simp only [Bool.and_eq_true, Bool.or_eq_true, Bool.and_eq_false_iff, Bool.or_eq_false_iff, Bool.not_eq_true', Bool.not_eq_false', decide_eq_true_eq, decide_eq_false_iff_not] at c3
    refine Ag ?_
    refine Ar ?_
    refine Aw 0 [] [0, 1, 5] [] hk0 v0 (cc 1 (p := (-9223372036854775808 ≤ (i : Int) + 1 ∧ (i : Int) + 1 ≤ 9223372036854775807)) (by first | omega | (simp; omega) | (simp; done) | (intros; simp_all; omega) | (intros; simp_all; done)) <| c0) ?_
    refine ⟨by kernel_rfl, _, ?_, i + 1, ?_, ?_, (by kernel_rfl), rfl⟩
    ·omega
    ·omega
    ·intro j hj
     by_cases h : j = i
     ·subst h; exact Q3t (by simp_all) (by simp_all) (by simp_all)
     ·exact f1_2 j (by omega)
  ·refine Bj ?_
   refine Aa [] [4] ?_
   refine Af ?_
   refine RK wR [(.bool true)] ?_
   exact Same.of_eq (by rw [Q4j (by omega) (fun j hj => f1_2 j (by omega))]; rfl)
set_option maxHeartbeats 400000 in
set_option maxRecDepth 100000 in
theorem X2q  :
  FnV Tryz.prog 26 [] (.bool true) := by
 refine A1 [.tmp 0] Tryz.func26 rfl Tryz.ntmps26 rfl rfl (fun B F hF => ?_)
 refine Aa [] [] ?_
 refine Ad [] [1] [(3, 10), (5, 12)] (hk 5 Za Q3c <| hk0) (vk 2 8 (a := (.agg [(.str ([97])), (.str ([49, 45, 49])), (.str ([110, 111, 97, 114, 99, 104])), (.str []), .nils, .nils, .nils, .nils, .nils, .nils, .nils, .nils])) (b := (Aq twA)) ((Imp.aggs (ImpL.cons Imp.refl (ImpL.cons Imp.refl (ImpL.cons Imp.refl (ImpL.cons Imp.refl (ImpL.cons Imp.nil (ImpL.cons Imp.nil (ImpL.cons Imp.nil (ImpL.cons Imp.nil (ImpL.cons Imp.nil (ImpL.cons Imp.nil (ImpL.cons Imp.nil (ImpL.cons Imp.nil ImpL.nil)))))))))))))) <| vk 2 9 (a := (.agg [(.str ([97])), (.str ([50, 45, 49])), (.str ([110, 111, 97, 114, 99, 104])), (.str []), .nils, .nils, .nils, .nils, .nils, .nils, .nils, .nils])) (b := (Aq twB)) ((Imp.aggs (ImpL.cons Imp.refl (ImpL.cons Imp.refl (ImpL.cons Imp.refl (ImpL.cons Imp.refl (ImpL.cons Imp.nil (ImpL.cons Imp.nil (ImpL.cons Imp.nil (ImpL.cons Imp.nil (ImpL.cons Imp.nil (ImpL.cons Imp.nil (ImpL.cons Imp.nil (ImpL.cons Imp.nil ImpL.nil)))))))))))))) <| vk 3 10 (b := (Ai 12 Aq [twA, twB])) (Imp.list (f := Aq) rfl) <| vk 4 11 (a := (.agg [(.str ([109, 97, 105, 110])), (.int .i64 0), (.bool false), (Ai 12 Aq [twA, twB])])) (b := (.agg [(.str twR.name), (.int .i64 twR.prio), (.bool twR.inst), (Ai 12 Aq twR.pkgs)])) ((Imp.aggs (ImpL.cons Imp.refl (ImpL.cons Imp.refl (ImpL.cons Imp.refl (ImpL.cons Imp.refl ImpL.nil)))))) <| vk 5 12 (b := (Ai 4 Bd [twR])) (Imp.list (f := Bd) rfl) <| v0) c0 ?_
 refine Ab ?_
 refine Aa [] [1, 17] ?_
 refine D6 (by kernel_rfl) ?_
 refine Ag ?_
 refine Ad [] [3, 4] [(3, 20), (3, 21)] (hk 3 Zo ((Q16 twS Q3b [1] [0] (by decide) (by decide)).to (Same.of_eq (by rw [Q29]))) <| hk0) (vk 3 20 (b := (Ap [1])) (Imp.list (f := AV.int .i64) rfl) <| vk 3 21 (b := (Ap [0])) (Imp.list (f := AV.int .i64) rfl) <| v0) c0 ?_
 refine Ad [] [3, 4, 5] [(4, 28)] (hk 4 Zn ((Vk twT twT (by decide)).to (Same.of_eq (congrArg AV.bool (decide_eq_true rfl)))) <| hk0) (vk 3 26 (a := (.agg [(.int .i64 4), (.int .i64 0), (.int .i64 1)])) (b := (.agg [(.int .i64 twX.1), (.int .i64 twX.2.1), (.int .i64 twX.2.2)])) ((Imp.aggs (ImpL.cons Imp.refl (ImpL.cons Imp.refl (ImpL.cons Imp.refl ImpL.nil))))) <| vk 3 27 (a := (.agg [(.int .i64 6), (.int .i64 1), (.int .i64 0)])) (b := (.agg [(.int .i64 twY.1), (.int .i64 twY.2.1), (.int .i64 twY.2.2)])) ((Imp.aggs (ImpL.cons Imp.refl (ImpL.cons Imp.refl (ImpL.cons Imp.refl ImpL.nil))))) <| vk 4 28 (b := (Ai 3 Bs twT)) (Imp.list (f := Bs) rfl) <| v0) c0 ?_
 refine Ad [] [4, 5, 6] [(2, 30), (4, 33)] (hk 2 Zp ((Q2v [1] twT (by decide) (by decide)).to (Same.of_eq (by rw [Q3a]))) <| hk 4 Z2 ((Vj [0] [0] (by decide)).to (Same.of_eq (congrArg AV.bool (decide_eq_true rfl)))) <| hk0) (vk 2 30 (b := (Ap [1])) (Imp.list (f := AV.int .i64) rfl) <| vk 4 33 (b := (Ap [0])) (Imp.list (f := AV.int .i64) rfl) <| v0) c0 ?_
 refine Aa [] [0] ?_
 refine Af ?_
 refine RK wR [(.bool true)] ?_
 exact Same.of_eq (by first | rfl | (simp only [Ah]; simp_all))
end Sv
end Go.Proofs.YtlfjokcbkopfeaaGreatDoor
end
section
namespace Go.Proofs.YtlfjokcbkopfeaaGreatDoor
open Go Go.RowKit
namespace Sv
attribute [local irreducible] SW SO Bg
theorem Pa : Am Tryz.prog 203 := Av Tryz.func203 (by kernel_rfl) rfl
theorem Zt : Am Tryz.prog 218 := Av Tryz.func218 (by kernel_rfl) rfl
theorem So : Am Tryz.prog 200 := Av Tryz.func200 (by kernel_rfl) rfl
theorem Zq : Am Tryz.prog 222 := Av Tryz.func222 (by kernel_rfl) rfl
theorem O8 : Am Tryz.prog 221 := Av Tryz.func221 (by kernel_rfl) rfl
theorem Zr : Am Tryz.prog 220 := Av Tryz.func220 (by kernel_rfl) rfl
theorem Zs : Am Tryz.prog 219 := Av Tryz.func219 (by kernel_rfl) rfl
theorem Pj (x y : Int) : Cg (x - y) 0 = Cg x y := by
 unfold Cg
 repeat' split
 all_goals omega
theorem Nj : ∀ a b : List UInt8, Lib.compareBytes a b = if Op.bytesLess a b = true then -1 else if Op.bytesLess b a = true then 1 else 0
 | [], [] => rfl
 | [], _ :: _ => rfl
 | _ :: _, [] => rfl
 | a :: r, b :: s => by
  unfold Lib.compareBytes Op.bytesLess
  rw [Nj r s]
  by_cases h1 : a < b
  ·simp [h1]
  ·by_cases h2 : b < a
   ·have : ¬ a = b := fun e => by subst e; exact UInt8.lt_irrefl _ h2
    simp [h1, h2, this]
   ·have : a = b := UInt8.le_antisymm (UInt8.not_lt.1 h2) (UInt8.not_lt.1 h1)
    subst this
    simp [h1]
theorem Uf : ∀ {a b : List UInt8}, Op.bytesLess a b = false → (!(Op.bytesLess a b || F5 a b)) = Op.bytesLess b a := by
 intro a b h
 rw [h, Bool.false_or, Qf]
 induction a generalizing b with
 | nil => cases b <;> simp_all [Op.bytesLess]
 | cons x r ih =>
  cases b with
  | nil => simp [Op.bytesLess]
  | cons y s =>
   unfold Op.bytesLess at h ⊢
   simp only [Bool.or_eq_false_iff, decide_eq_false_iff_not, Bool.and_eq_false_iff] at h
   by_cases e : x = y
   ·subst e
    have k := ih (b := s) (by simpa using h.2)
    simp only [List.cons.injEq, true_and]
    simp [k]
   ·have l : y < x := by
     rcases UInt8.lt_or_lt_of_ne e with q | q
     ·exact absurd q h.1
     ·exact q
    simp [l, e]
theorem Ud {x : List UInt8} (h : 0 < (x.length : Int)) (k : ((Ae x 0).toNat : Int) = 48) : Lib.trimLeftB (x.drop 1) 48 = Lib.trimLeftB x 48 := by
 cases x with
 | nil => simp at h
 | cons a r =>
  have e : a = 48 := UInt8.toNat_inj.1 (by rw [show Ae (a :: r) 0 = a by simp [Ae]] at k; show a.toNat = 48; omega)
  subst e
  simp [Lib.trimLeftB]
theorem Uc {x : List UInt8} (h : 0 < (x.length : Int) → ¬ ((Ae x 0).toNat : Int) = 48) : Lib.trimLeftB x 48 = x := by
 cases x with
 | nil => rfl
 | cons a r =>
  have k := h (by simp)
  have e : ¬ a = 48 := fun e => k (by subst e; rfl)
  simp [Lib.trimLeftB, e]
theorem Q6w {c : UInt8} (h : Et c = false) : Ci c = true := by unfold Ci; rw [h]; rfl
theorem Q6v {c : UInt8} (h : Et c = true) : Ci c = false := by unfold Ci; rw [h]; rfl
theorem Uu {x : List UInt8} (h : 0 < x.length) (k : Et (Ae x 0) = false) : (x.drop 1).drop (Ak Ci (x.drop 1)) = x.drop (Ak Ci x) := by
 cases x with
 | nil => simp at h
 | cons a r =>
  have ha : Ae (a :: r) 0 = a := by simp [Ae]
  rw [ha] at k
  unfold Ak
  simp [List.takeWhile_cons, Q6w k]
theorem Q36 {x : List UInt8} (k : Et (Ae x 0) = true) : x.drop (Ak Ci x) = x := by
 cases x with
 | nil => rfl
 | cons a r =>
  have ha : Ae (a :: r) 0 = a := by simp [Ae]
  rw [ha] at k
  unfold Ak
  simp [List.takeWhile_cons, Q6v k]
theorem Q7y {c : UInt8} (h : ((Bp c = true ∨ Aj c = true) ∨ (c.toNat : Int) = 126) ∨ (c.toNat : Int) = 94) : Et c = true := by
 unfold Et
 rcases h with ((h | h) | h) | h
 ·simp [h]
 ·simp [h]
 ·simp [show c.toNat = 126 by omega]
 ·simp [show c.toNat = 94 by omega]
def Bw : Bool → UInt8 → Bool
 | true => Aj
 | false => Bp
def F6 (s : List UInt8) : Bool := !decide (s = []) && !Aj (Ae s 0)
set_option maxHeartbeats 400000 in
set_option maxRecDepth 100000 in
theorem N3 (n : Int) :
  FnV Tryz.prog 203 [(.int .i64 n)] (.int .i64 (Cg n 0)) := by
 refine A1 [.tmp 2] Tryz.func203 rfl Tryz.ntmps203 rfl rfl (fun B F hF => ?_)
 refine Aa [] [0] ?_
 refine Ab ?_
 refine Aa [] [0, 4] ?_
 refine A2 (p := n < 0) (by kernel_rfl) (fun c1 => ?_) (fun c1 => ?_)
 ·refine Aa [] [2] ?_
  refine Af ?_
  refine RK wR [(.int .i64 (-1))] ?_
  exact Same.of_eq (by simp only [Ah]; unfold Cg; rw [if_pos (by assumption)])
 ·refine Ag ?_
  refine Ab ?_
  refine Aa [] [6] ?_
  refine A2 (p := 0 < n) (by kernel_rfl) (fun c2 => ?_) (fun c2 => ?_)
  ·refine Aa [] [2] ?_
   refine Af ?_
   refine RK wR [(.int .i64 1)] ?_
   exact Same.of_eq (by simp only [Ah]; unfold Cg; rw [if_neg (by assumption), if_pos (by assumption)])
  ·refine Ag ?_
   refine Aa [] [2] ?_
   refine Af ?_
   refine RK wR [(.int .i64 0)] ?_
   exact Same.of_eq (by simp only [Ah]; unfold Cg; rw [if_neg (by assumption), if_neg (by assumption)])
set_option maxHeartbeats 400000 in
set_option maxRecDepth 100000 in
theorem Vh (a b : List UInt8) :
  FnV Tryz.prog 218 [(.str a), (.str b)] (.int .i64 (Lib.compareBytes a b)) := by
 refine A1 [.tmp 4] Tryz.func218 rfl Tryz.ntmps218 rfl rfl (fun B F hF => ?_)
 refine Aa [] [0, 1] ?_
 refine Ab ?_
 refine Aa [] [0, 1, 7] ?_
 refine A3 (q := Op.bytesLess a b) (by kernel_rfl) (fun c1 => ?_) (fun c1 => ?_)
 ·try simp only [Bool.and_eq_true, Bool.or_eq_true, Bool.and_eq_false_iff, Bool.or_eq_false_iff, Bool.not_eq_true', Bool.not_eq_false', decide_eq_true_eq, decide_eq_false_iff_not] at c1
  refine Aa [] [4] ?_
  refine Af ?_
  refine RK wR [(.int .i64 (-1))] ?_
  exact Same.of_eq (by simp only [Ah]; rw [Nj, if_pos (by assumption)])
 ·try simp only [Bool.and_eq_true, Bool.or_eq_true, Bool.and_eq_false_iff, Bool.or_eq_false_iff, Bool.not_eq_true', Bool.not_eq_false', decide_eq_true_eq, decide_eq_false_iff_not] at c1
  refine Ag ?_
  refine Ab ?_
  refine Aa [] [10] ?_
  refine A3 (q := !(Op.bytesLess a b || F5 a b)) (by kernel_rfl) (fun c2 => ?_) (fun c2 => ?_)
  ·try simp only [Bool.and_eq_true, Bool.or_eq_true, Bool.and_eq_false_iff, Bool.or_eq_false_iff, Bool.not_eq_true', Bool.not_eq_false', decide_eq_true_eq, decide_eq_false_iff_not] at c2
   refine Aa [] [4] ?_
   refine Af ?_
   refine RK wR [(.int .i64 1)] ?_
   exact Same.of_eq (by simp only [Ah]; rw [Nj, if_neg (by simp_all), if_pos (by rw [← Uf (by simp_all)]; simp_all)])
  ·try simp only [Bool.and_eq_true, Bool.or_eq_true, Bool.and_eq_false_iff, Bool.or_eq_false_iff, Bool.not_eq_true', Bool.not_eq_false', decide_eq_true_eq, decide_eq_false_iff_not] at c2
   refine Ag ?_
   refine Aa [] [4] ?_
   refine Af ?_
   refine RK wR [(.int .i64 0)] ?_
   exact Same.of_eq (by simp only [Ah]; rw [Nj, if_neg (by simp_all), if_neg (by rw [← Uf (by simp_all)]; simp_all)])
set_option maxHeartbeats 1000000 in
set_option maxRecDepth 100000 in
theorem Q6 (a b : List UInt8) (ha : a.length ≤ 4194304) (hb : b.length ≤ 4194304) :
  FnV Tryz.prog 200 [(.str a), (.str b)] (.int .i64 (Cf a b)) := by
 refine A1 [.tmp 4] Tryz.func200 rfl Tryz.ntmps200 rfl rfl (fun B F hF => ?_)
 refine Aa [] [0, 1] ?_
 refine Ab ?_
 refine A0 ?_
 refine Bq (fun g y => ∃ (x : List UInt8), Lib.trimLeftB x 48 = Lib.trimLeftB a 48 ∧ x.length ≤ a.length ∧ y = ⟨[(0, (.str x)), (1, (.str b))], [], 0⟩ ∧ g = x.length) [0, 1] 0 _ (by omega) ⟨a, (by rfl), (by exact Nat.le_refl _), (by kernel_rfl), rfl⟩ ?_
 rintro g1 y1 ⟨x, f1_1, f1_2, rfl, rfl⟩
 refine Ab ?_
 obtain ⟨b1, hb1⟩ : ∃ b, b = (decide (0 < (x.length : Int))) := ⟨_, rfl⟩
 refine Ad (CS := [(5, (b1 = true → (b1 = true) ∧ (0 ≤ (0 : Int) ∧ 0 < x.length))), (6, (b1 = true → b1 = true)), (7, (b1 = true → b1 = true))]) [9, 10, 11] [0, 1, 12] [] hk0 (vk 4 8 (a := .bool (decide (0 < (x.length : Int)))) (b := .bool b1) (Imp.of_eq (by rw [hb1])) <| v0) (by refine cc _ ?_ <| cc _ ?_ <| cc _ ?_ c0 <;> first | omega | (simp; omega) | (simp; done) | (intros; simp_all; omega) | (intros; simp_all; done)) ?_
 refine A3 (q := b1 && (decide (((Ae x 0).toNat : Int) = 48))) (by kernel_rfl) (fun c1 => ?_) (fun c1 => ?_)
 ·subst hb1
  try simp only [Bool.and_eq_true, Bool.or_eq_true, Bool.and_eq_false_iff, Bool.or_eq_false_iff, Bool.not_eq_true', Bool.not_eq_false', decide_eq_true_eq, decide_eq_false_iff_not] at c1
  refine Ag ?_
  refine A0 ?_
  refine Ar ?_
  refine Aw 0 [] [0, 1] [] hk0 v0 (cc 1 (p := (0 ≤ (1 : Int) ∧ (1 : Int) ≤ (x.length : Int) ∧ (x.length : Int) ≤ (x.length : Int))) (by first | omega | (simp; omega) | (simp; done) | (intros; simp_all; omega) | (intros; simp_all; done)) <| c0) ?_
  refine ⟨by kernel_rfl, _, ?_, (x.drop 1), ?_, ?_, (Eq.trans (b := (⟨[(0, (.str ((x.take x.length).drop 1))), (1, (.str b))], [], 0⟩ : St)) (by kernel_rfl) (by rw [List.take_length] <;> kernel_rfl)), rfl⟩
  ·simp; omega
  ·rw [Ud c1.1 c1.2]; exact f1_1
  ·rw [List.length_drop]; omega
 ·subst hb1
  try simp only [Bool.and_eq_true, Bool.or_eq_true, Bool.and_eq_false_iff, Bool.or_eq_false_iff, Bool.not_eq_true', Bool.not_eq_false', decide_eq_true_eq, decide_eq_false_iff_not] at c1
  have hx := Uc (x := x) (fun h k => by simp_all)
  rw [hx] at f1_1
  refine Bj ?_
  refine Ab ?_
  refine A0 ?_
  refine Bq (fun g y => ∃ (z : List UInt8), Lib.trimLeftB z 48 = Lib.trimLeftB b 48 ∧ z.length ≤ b.length ∧ y = ⟨[(0, (.str x)), (1, (.str z))], [], 0⟩ ∧ g = z.length) [0, 1] 0 _ (by omega) ⟨b, (by rfl), (by exact Nat.le_refl _), (by kernel_rfl), rfl⟩ ?_
  rintro g2 y2 ⟨z, f2_1, f2_2, rfl, rfl⟩
  refine Ab ?_
  obtain ⟨b2, hb2⟩ : ∃ b, b = (decide (0 < (z.length : Int))) := ⟨_, rfl⟩
  refine Ad (CS := [(5, (b2 = true → (b2 = true) ∧ (0 ≤ (0 : Int) ∧ 0 < z.length))), (6, (b2 = true → b2 = true)), (7, (b2 = true → b2 = true))]) [19, 20, 21] [0, 1, 22] [] hk0 (vk 4 18 (a := .bool (decide (0 < (z.length : Int)))) (b := .bool b2) (Imp.of_eq (by rw [hb2])) <| v0) (by refine cc _ ?_ <| cc _ ?_ <| cc _ ?_ c0 <;> first | omega | (simp; omega) | (simp; done) | (intros; simp_all; omega) | (intros; simp_all; done)) ?_
  refine A3 (q := b2 && (decide (((Ae z 0).toNat : Int) = 48))) (by kernel_rfl) (fun c2 => ?_) (fun c2 => ?_)
  ·subst hb2
   try simp only [Bool.and_eq_true, Bool.or_eq_true, Bool.and_eq_false_iff, Bool.or_eq_false_iff, Bool.not_eq_true', Bool.not_eq_false', decide_eq_true_eq, decide_eq_false_iff_not] at c2
   refine Ag ?_
   refine A0 ?_
   refine Ar ?_
   refine Aw 0 [] [0, 1] [] hk0 v0 (cc 1 (p := (0 ≤ (1 : Int) ∧ (1 : Int) ≤ (z.length : Int) ∧ (z.length : Int) ≤ (z.length : Int))) (by first | omega | (simp; omega) | (simp; done) | (intros; simp_all; omega) | (intros; simp_all; done)) <| c0) ?_
   refine ⟨by kernel_rfl, _, ?_, (z.drop 1), ?_, ?_, (Eq.trans (b := (⟨[(0, (.str x)), (1, (.str ((z.take z.length).drop 1)))], [], 0⟩ : St)) (by kernel_rfl) (by rw [List.take_length] <;> kernel_rfl)), rfl⟩
   ·simp; omega
   ·rw [Ud c2.1 c2.2]; exact f2_1
   ·rw [List.length_drop]; omega
  ·subst hb2
   try simp only [Bool.and_eq_true, Bool.or_eq_true, Bool.and_eq_false_iff, Bool.or_eq_false_iff, Bool.not_eq_true', Bool.not_eq_false', decide_eq_true_eq, decide_eq_false_iff_not] at c2
   have hz := Uc (x := z) (fun h k => by simp_all)
   rw [hz] at f2_1
   refine Bj ?_
   refine Ab ?_
   refine Aa [] [0, 1, 29] ?_
   refine Cm (p := (x.length : Int) = (z.length : Int)) (by kernel_rfl) (fun c3 => ?_) (fun c3 => ?_)
   ·refine Ad [] [4] [] (hk 5 Pa (N3 ((x.length : Int) - (z.length : Int))) <| hk0) v0 (cc 4 (p := (-9223372036854775808 ≤ (x.length : Int) - (z.length : Int) ∧ (x.length : Int) - (z.length : Int) ≤ 9223372036854775807)) (by first | omega | (simp; omega) | (simp; done) | (intros; simp_all; omega) | (intros; simp_all; done)) <| c0) ?_
    refine Af ?_
    refine RK wR [(.int .i64 (Cg ((x.length : Int) - (z.length : Int)) 0))] ?_
    exact Same.of_eq (by simp only [Ah]; rw [Pj]; unfold Cf; rw [← f1_1, ← f2_1]; unfold orI; rw [if_neg (by unfold Cg; repeat' split <;> omega)])
   ·refine Ag ?_
    refine Ad [] [4] [] (hk 2 Zt (Vh x z) <| hk0) v0 c0 ?_
    refine Af ?_
    refine RK wR [(.int .i64 (Lib.compareBytes x z))] ?_
    exact Same.of_eq (by simp only [Ah]; unfold Cf; rw [← f1_1, ← f2_1]; unfold orI; rw [if_pos (by unfold Cg; repeat' split <;> omega)])
set_option maxHeartbeats 1000000 in
set_option maxRecDepth 100000 in
theorem Vi (s : List UInt8) (hs : s.length ≤ 4194304) :
  FnV Tryz.prog 222 [(.str s)] (.str (s.drop (Ak Ci s))) := by
 refine A1 [.tmp 2] Tryz.func222 rfl Tryz.ntmps222 rfl rfl (fun B F hF => ?_)
 refine Aa [] [0] ?_
 refine Ab ?_
 refine A0 ?_
 refine Bq (fun g y => ∃ (x : List UInt8), x.length ≤ s.length ∧ x.drop (Ak Ci x) = s.drop (Ak Ci s) ∧ y = ⟨[(0, (.str x))], [], 0⟩ ∧ g = x.length) [0] 0 _ (by omega) ⟨s, (by exact Nat.le_refl _), (by rfl), (by kernel_rfl), rfl⟩ ?_
 rintro g1 y1 ⟨x, f1_1, f1_2, rfl, rfl⟩
 refine Ab ?_
 refine Aa [] [0, 7] ?_
 refine A2 (p := 0 < (x.length : Int)) (by kernel_rfl) (fun c1 => ?_) (fun c1 => ?_)
 ·refine Ag ?_
  refine A0 ?_
  refine Ad [] [0, 3] [] (hk 2 O9 (Nx (Ae x 0)) <| hk0) v0 (cc 1 (p := (0 ≤ (0 : Int) ∧ 0 < x.length)) (by first | omega | (simp; omega) | (simp; done) | (intros; simp_all; omega) | (intros; simp_all; done)) <| c0) ?_
  refine Ad [] [0, 3, 4] [] (hk 2 Jy (Jd (Ae x 0)) <| hk0) v0 (cc 1 (p := (0 ≤ (0 : Int) ∧ 0 < x.length)) (by first | omega | (simp; omega) | (simp; done) | (intros; simp_all; omega) | (intros; simp_all; done)) <| c0) ?_
  refine Ab ?_
  obtain ⟨b1, hb1⟩ : ∃ b, b = (Bp (Ae x 0)) := ⟨_, rfl⟩
  obtain ⟨b2, hb2⟩ : ∃ b, b = (b1 || (Aj (Ae x 0))) := ⟨_, rfl⟩
  obtain ⟨b3, hb3⟩ : ∃ b, b = (b2 || (decide (((Ae x 0).toNat : Int) = 126))) := ⟨_, rfl⟩
  refine Ad (CS := [(3, (b1 = false → (!b1) = true)), (6, ((!b2) = true → ((!b2) = true) ∧ (0 ≤ (0 : Int) ∧ 0 < x.length))), (7, ((!b2) = true → (!b2) = true)), (8, (b2 = false → (!b2) = true)), (11, ((!b3) = true → ((!b3) = true) ∧ (0 ≤ (0 : Int) ∧ 0 < x.length))), (12, ((!b3) = true → (!b3) = true)), (13, (b3 = false → (!b3) = true))]) [16, 19, 20, 21, 24, 25, 26] [0, 27] [] hk0 (vk 2 15 (a := .bool (Bp (Ae x 0))) (b := .bool b1) (Imp.of_eq (by rw [hb1])) <| vk 5 18 (a := .bool (b1 || (Aj (Ae x 0)))) (b := .bool b2) (Imp.of_eq (by rw [hb2])) <| vk 9 22 (a := .bool (b2 || (decide (((Ae x 0).toNat : Int) = 126)))) (b := .bool b3) (Imp.of_eq (by rw [hb3])) <| v0) (by refine cc _ ?_ <| cc _ ?_ <| cc _ ?_ <| cc _ ?_ <| cc _ ?_ <| cc _ ?_ <| cc _ ?_ c0 <;> first | omega | (simp; omega) | (simp; done) | (intros; simp_all; omega) | (intros; simp_all; done)) ?_
  refine A3 (q := b3 || (decide (((Ae x 0).toNat : Int) = 94))) (by kernel_rfl) (fun c2 => ?_) (fun c2 => ?_)
  ·subst hb3 hb2 hb1
   try simp only [Bool.and_eq_true, Bool.or_eq_true, Bool.and_eq_false_iff, Bool.or_eq_false_iff, Bool.not_eq_true', Bool.not_eq_false', decide_eq_true_eq, decide_eq_false_iff_not] at c2
   refine Aa [] [2] ?_
   refine Af ?_
   refine RK wR [(.str x)] ?_
   exact Same.of_eq (by simp only [Ah]; rw [← f1_2, Q36 (Q7y c2)])
  ·subst hb3 hb2 hb1
   try simp only [Bool.and_eq_true, Bool.or_eq_true, Bool.and_eq_false_iff, Bool.or_eq_false_iff, Bool.not_eq_true', Bool.not_eq_false', decide_eq_true_eq, decide_eq_false_iff_not] at c2
   refine Ag ?_
   refine Ar ?_
   refine Aw 0 [] [0] [] hk0 v0 (cc 1 (p := (0 ≤ (1 : Int) ∧ (1 : Int) ≤ (x.length : Int) ∧ (x.length : Int) ≤ (x.length : Int))) (by first | omega | (simp; omega) | (simp; done) | (intros; simp_all; omega) | (intros; simp_all; done)) <| c0) ?_
   refine ⟨by kernel_rfl, _, ?_, (x.drop 1), ?_, ?_, (Eq.trans (b := (⟨[(0, (.str ((x.take x.length).drop 1)))], [], 0⟩ : St)) (by kernel_rfl) (by rw [List.take_length] <;> kernel_rfl)), rfl⟩
   ·rw [List.length_drop]; omega
   ·rw [List.length_drop]; omega
   ·rw [Uu (by omega) (by unfold Et; simp_all; omega)]; exact f1_2
 ·refine Bj ?_
  refine Aa [] [2] ?_
  refine Af ?_
  refine RK wR [(.str x)] ?_
  exact Same.of_eq (by simp only [Ah]; rw [← f1_2, show x = [] from List.length_eq_zero_iff.1 (by omega)]; rfl)
set_option maxHeartbeats 1000000 in
set_option maxRecDepth 100000 in
theorem N4 (s : List UInt8) (d : Bool) (hs : s.length ≤ 4194304) :
  FnV Tryz.prog 221 [(.str s), (.bool d)] (.int .i64 ((Ak (Bw d) s : Int))) := by
 refine A1 [.tmp 4] Tryz.func221 rfl Tryz.ntmps221 rfl rfl (fun B F hF => ?_)
 refine Aa [] [0, 1] ?_
 refine Aa [] [0, 1, 5] ?_
 refine Ab ?_
 refine A0 ?_
 refine Bq (fun g y => ∃ (i : Nat), i ≤ s.length ∧ (∀ j, j < i → Bw d (Ae s j) = true) ∧ y = ⟨[(0, (.str s)), (1, (.bool d)), (5, (.int .i64 ((i : Int))))], [], 0⟩ ∧ g = s.length - i) [0, 1, 5] 0 _ (by omega) ⟨0, (by omega), (by exact fun j hj => by omega), (by kernel_rfl), rfl⟩ ?_
 rintro g1 y1 ⟨i, f1_1, f1_2, rfl, rfl⟩
 refine Ab ?_
 refine Aa [] [0, 1, 5, 11] ?_
 refine A2 (p := (i : Int) < (s.length : Int)) (by kernel_rfl) (fun c1 => ?_) (fun c1 => ?_)
 ·refine Ag ?_
  refine A0 ?_
  refine Ad [] [0, 1, 5, 6] [] (hk 3 O9 (Nx (Ae s i)) <| hk0) v0 (cc 2 (p := (0 ≤ (i : Int) ∧ i < s.length)) (by first | omega | (simp; omega) | (simp; done) | (intros; simp_all; omega) | (intros; simp_all; done)) <| c0) ?_
  refine Ad [] [0, 1, 5, 6, 7] [] (hk 3 Jy (Jd (Ae s i)) <| hk0) v0 (cc 2 (p := (0 ≤ (i : Int) ∧ i < s.length)) (by first | omega | (simp; omega) | (simp; done) | (intros; simp_all; omega) | (intros; simp_all; done)) <| c0) ?_
  refine Ab ?_
  obtain ⟨b1, hb1⟩ : ∃ b, b = (d && (!(Aj (Ae s i)))) := ⟨_, rfl⟩
  refine Ad (CS := [(3, (d = true → d = true)), (4, (d = true → d = true)), (7, ((!b1) = true → (!b1) = true)), (8, ((!b1) = true → (!b1) = true)), (10, (((!b1) && (!d)) = true → ((!b1) && (!d)) = true)), (11, ((!b1) = true → ((!b1) = true) ∧ ((!d) = true → ((!b1) && (!d)) = true))), (12, (b1 = false → (!b1) = true))]) [22, 23, 26, 27, 28, 29, 30, 31] [0, 1, 5, 32] [] hk0 (vk 6 25 (a := .bool (d && (!(Aj (Ae s i))))) (b := .bool b1) (Imp.of_eq (by rw [hb1])) <| v0) (by refine cc _ ?_ <| cc _ ?_ <| cc _ ?_ <| cc _ ?_ <| cc _ ?_ <| cc _ ?_ <| cc _ ?_ c0 <;> first | omega | (simp; omega) | (simp; done) | (intros; simp_all; omega) | (intros; simp_all; done)) ?_
  refine A3 (q := b1 || ((!d) && (!(Bp (Ae s i))))) (by kernel_rfl) (fun c2 => ?_) (fun c2 => ?_)
  ·subst hb1
   try simp only [Bool.and_eq_true, Bool.or_eq_true, Bool.and_eq_false_iff, Bool.or_eq_false_iff, Bool.not_eq_true', Bool.not_eq_false', decide_eq_true_eq, decide_eq_false_iff_not] at c2
   refine Aa [] [4] ?_
   refine Af ?_
   refine RK wR [(.int .i64 ((i : Int)))] ?_
   exact Same.of_eq (by simp only [Ah]; rw [S2 (i := i) (by omega) f1_2 (by cases d <;> simp_all [Bw])])
  ·subst hb1
   try simp only [Bool.and_eq_true, Bool.or_eq_true, Bool.and_eq_false_iff, Bool.or_eq_false_iff, Bool.not_eq_true', Bool.not_eq_false', decide_eq_true_eq, decide_eq_false_iff_not] at c2
   refine Ag ?_
   refine Ar ?_
   refine Aw 0 [] [0, 1, 5] [] hk0 v0 (cc 1 (p := (-9223372036854775808 ≤ (i : Int) + 1 ∧ (i : Int) + 1 ≤ 9223372036854775807)) (by first | omega | (simp; omega) | (simp; done) | (intros; simp_all; omega) | (intros; simp_all; done)) <| c0) ?_
   refine ⟨by kernel_rfl, _, ?_, i + 1, ?_, ?_, (by kernel_rfl), rfl⟩
   ·omega
   ·omega
   ·intro j hj
    by_cases h : j = i
    ·subst h; cases d <;> simp_all [Bw]
    ·exact f1_2 j (by omega)
 ·refine Bj ?_
  refine Aa [] [4] ?_
  refine Af ?_
  refine RK wR [(.int .i64 ((i : Int)))] ?_
  exact Same.of_eq (by simp only [Ah]; rw [S3 (fun j hj => f1_2 j (by omega)), show i = s.length from by omega])
set_option maxHeartbeats 400000 in
set_option maxRecDepth 100000 in
theorem Vf (s : List UInt8) :
  FnV Tryz.prog 220 [(.str s)] (.int .i64 (Bm s)) := by
 have hb0 : (Ae s 0).toNat < 256 := (Ae s 0).toNat_lt
 refine A1 [.tmp 2] Tryz.func220 rfl Tryz.ntmps220 rfl rfl (fun B F hF => ?_)
 refine Aa [] [0] ?_
 refine Ab ?_
 refine Aa [] [0, 7] ?_
 refine A2 (p := (s.length : Int) = 0) (by kernel_rfl) (fun c1 => ?_) (fun c1 => ?_)
 ·refine Aa [] [2] ?_
  refine Af ?_
  refine RK wR [(.int .i64 0)] ?_
  exact Same.of_eq (by simp only [Ah]; unfold Bm; rw [if_pos (.inl (List.length_eq_zero_iff.1 (by omega)))])
 ·refine Ag ?_
  refine Ad [] [0, 3] [] (hk 2 Jy (Jd (Ae s 0)) <| hk0) v0 (cc 1 (p := (0 ≤ (0 : Int) ∧ 0 < s.length)) (by first | omega | (simp; omega) | (simp; done) | (intros; simp_all; omega) | (intros; simp_all; done)) <| c0) ?_
  refine Ad [] [0, 3, 4] [] (hk 2 O9 (Nx (Ae s 0)) <| hk0) v0 (cc 1 (p := (0 ≤ (0 : Int) ∧ 0 < s.length)) (by first | omega | (simp; omega) | (simp; done) | (intros; simp_all; omega) | (intros; simp_all; done)) <| c0) ?_
  refine Ab ?_
  refine Aa [] [0, 4, 14] ?_
  refine A3 (q := Aj (Ae s 0)) (by kernel_rfl) (fun c2 => ?_) (fun c2 => ?_)
  ·try simp only [Bool.and_eq_true, Bool.or_eq_true, Bool.and_eq_false_iff, Bool.or_eq_false_iff, Bool.not_eq_true', Bool.not_eq_false', decide_eq_true_eq, decide_eq_false_iff_not] at c2
   refine Aa [] [2] ?_
   refine Af ?_
   refine RK wR [(.int .i64 0)] ?_
   exact Same.of_eq (by simp only [Ah]; unfold Bm; rw [if_pos (.inr (by assumption))])
  ·try simp only [Bool.and_eq_true, Bool.or_eq_true, Bool.and_eq_false_iff, Bool.or_eq_false_iff, Bool.not_eq_true', Bool.not_eq_false', decide_eq_true_eq, decide_eq_false_iff_not] at c2
   refine Ag ?_
   refine Ab ?_
   refine Ad [] [0, 4, 17] [] hk0 v0 (cc 1 (p := (0 ≤ (0 : Int) ∧ 0 < s.length)) (by first | omega | (simp; omega) | (simp; done) | (intros; simp_all; omega) | (intros; simp_all; done)) <| c0) ?_
   refine A2 (p := ((Ae s 0).toNat : Int) = 126) (by kernel_rfl) (fun c3 => ?_) (fun c3 => ?_)
   ·refine Aa [] [2] ?_
    refine Af ?_
    refine RK wR [(.int .i64 (-1))] ?_
    exact Same.of_eq (by simp only [Ah]; unfold Bm; rw [if_neg (by simp_all), if_pos (by omega)])
   ·refine Ag ?_
    refine Ab ?_
    refine Aa [] [0, 18] ?_
    refine A3 (q := Bp (Ae s 0)) (by kernel_rfl) (fun c4 => ?_) (fun c4 => ?_)
    ·try simp only [Bool.and_eq_true, Bool.or_eq_true, Bool.and_eq_false_iff, Bool.or_eq_false_iff, Bool.not_eq_true', Bool.not_eq_false', decide_eq_true_eq, decide_eq_false_iff_not] at c4
     refine Ad (CS := [(1, (0 ≤ (0 : Int) ∧ 0 < s.length)), (2, (-9223372036854775808 ≤ ((Ae s 0).toNat : Int) ∧ ((Ae s 0).toNat : Int) ≤ 9223372036854775807))]) [] [2] [] hk0 v0 (by refine cc _ ?_ <| cc _ ?_ c0 <;> first | omega | (simp; omega) | (simp; done) | (intros; simp_all; omega) | (intros; simp_all; done)) ?_
     refine Af ?_
     refine RK wR [(.int .i64 (((Ae s 0).toNat : Int)))] ?_
     exact Same.of_eq (by simp only [Ah]; unfold Bm; rw [if_neg (by simp_all), if_neg (by omega), if_pos (by assumption)])
    ·try simp only [Bool.and_eq_true, Bool.or_eq_true, Bool.and_eq_false_iff, Bool.or_eq_false_iff, Bool.not_eq_true', Bool.not_eq_false', decide_eq_true_eq, decide_eq_false_iff_not] at c4
     refine Ag ?_
     refine Ad (CS := [(1, (0 ≤ (0 : Int) ∧ 0 < s.length)), (2, (-9223372036854775808 ≤ ((Ae s 0).toNat : Int) ∧ ((Ae s 0).toNat : Int) ≤ 9223372036854775807)), (3, (-9223372036854775808 ≤ ((Ae s 0).toNat : Int) + 256 ∧ ((Ae s 0).toNat : Int) + 256 ≤ 9223372036854775807))]) [] [2] [] hk0 v0 (by refine cc _ ?_ <| cc _ ?_ <| cc _ ?_ c0 <;> first | omega | (simp; omega) | (simp; done) | (intros; simp_all; omega) | (intros; simp_all; done)) ?_
     refine Af ?_
     refine RK wR [(.int .i64 (((Ae s 0).toNat : Int) + 256))] ?_
     exact Same.of_eq (by simp only [Ah]; unfold Bm; rw [if_neg (by simp_all), if_neg (by omega), if_neg (by simp_all), Int.add_comm]; try rfl; try simp [])
set_option maxHeartbeats 400000 in
set_option maxRecDepth 100000 in
theorem Vm (s : List UInt8) :
  FnV Tryz.prog 219 [(.str s)] (.bool (F6 s)) := by
 refine A1 [.tmp 2] Tryz.func219 rfl Tryz.ntmps219 rfl rfl (fun B F hF => ?_)
 refine Aa [] [0] ?_
 refine Ab ?_
 refine Aa [] [0, 6] ?_
 refine A2 (p := (s.length : Int) = 0) (by kernel_rfl) (fun c1 => ?_) (fun c1 => ?_)
 ·refine Aa [] [2] ?_
  refine Af ?_
  refine RK wR [(.bool false)] ?_
  exact Same.of_eq (by simp only [Ah]; unfold F6; rw [show s = [] from List.length_eq_zero_iff.1 (by omega)]; rfl)
 ·refine Ag ?_
  refine Ad [] [3] [] (hk 2 Jy (Jd (Ae s 0)) <| hk0) v0 (cc 1 (p := (0 ≤ (0 : Int) ∧ 0 < s.length)) (by first | omega | (simp; omega) | (simp; done) | (intros; simp_all; omega) | (intros; simp_all; done)) <| c0) ?_
  refine Aa [] [2] ?_
  refine Af ?_
  refine RK wR [(.bool (!(Aj (Ae s 0))))] ?_
  exact Same.of_eq (by simp only [Ah]; unfold F6; rw [decide_eq_false (fun e => by simp [e] at c1)]; simp)
end Sv
end Go.Proofs.YtlfjokcbkopfeaaGreatDoor
end
section
namespace Go.Proofs.YtlfjokcbkopfeaaGreatDoor
open Go Go.RowKit
namespace Sv
attribute [local irreducible] SW SO Bg
theorem Zw : Am Tryz.prog 201 := Av Tryz.func201 (by kernel_rfl) rfl
theorem Zv : Am Tryz.prog 202 := Av Tryz.func202 (by kernel_rfl) rfl
theorem T8 (s : List UInt8) : -1 ≤ Bm s ∧ Bm s ≤ 511 := by
 have hb : (Ae s 0).toNat < 256 := (Ae s 0).toNat_lt
 unfold Bm
 repeat' split
 all_goals omega
theorem X18 {x y : Int} (h : Cg x y = 0) : x = y := by
 unfold Cg at h
 split at h
 ·omega
 ·split at h <;> omega
theorem X19 (x : Int) : Cg x x = 0 := by unfold Cg; rw [if_neg (by omega), if_neg (by omega)]
theorem other_is {s : List UInt8} : F6 s = true ↔ ¬ Bm s = 0 := by
 unfold F6 Bm
 cases s with
 | nil => simp
 | cons a r =>
  have ha : Ae (a :: r) 0 = a := by simp [Ae]
  have hb : a.toNat < 256 := a.toNat_lt
  rw [ha]
  by_cases h : Aj a = true
  ·simp [h]
  ·have h : Aj a = false := by simpa using h
   have h0 : ¬ a.toNat = 0 ∨ Bp a = false := by
    by_cases q : a.toNat = 0
    ·right; unfold Bp; simp [q]
    ·exact .inl q
   simp only [h, List.cons_ne_nil, decide_false, Bool.not_false, Bool.and_self, false_or, Bool.false_eq_true, if_false]
   repeat' split
   all_goals first | omega | (simp_all; omega) | simp_all
theorem Wp {s : List UInt8} (h : F6 s = false) : Bm s = 0 := by
 by_cases q : Bm s = 0
 ·exact q
 ·rw [other_is.2 q] at h; cases h
theorem Q0n {n : Nat} {u v : List UInt8} (hn : 1 ≤ n) (h : Bm u ≠ 0 ∨ Bm v ≠ 0) : C2 n u v = if Bm u ≠ Bm v then Cg (Bm u) (Bm v) else C2 (n - 1) (u.drop 1) (v.drop 1) := by
 obtain ⟨m, rfl⟩ : ∃ m, n = m + 1 := ⟨n - 1, by omega⟩
 rw [C2, if_pos h]; rfl
theorem Sz {n : Nat} {u v : List UInt8} (hn : 1 ≤ n) (h1 : Bm u = 0) (h2 : Bm v = 0) : C2 n u v = if Cf (u.take (Ak Aj u)) (v.take (Ak Aj v)) ≠ 0 then Cf (u.take (Ak Aj u)) (v.take (Ak Aj v)) else if (u.drop (Ak Aj u)) ≠ [] ∨ (v.drop (Ak Aj v)) ≠ [] then C2 (n - 1) (u.drop (Ak Aj u)) (v.drop (Ak Aj v)) else 0 := by
 obtain ⟨m, rfl⟩ : ∃ m, n = m + 1 := ⟨n - 1, by omega⟩
 rw [C2, if_neg (by simp [h1, h2])]; rfl
theorem Q0p : ∀ n : Nat, C2 n [] [] = 0
 | 0 => rfl
 | n + 1 => by rw [Sz (by omega) rfl rfl]; rfl
theorem X1w {n : Nat} {u v : List UInt8} (hn : 1 ≤ n) (h1 : Bm u = 0) (h2 : Bm v = 0) (h3 : Cf (u.take (Ak Aj u)) (v.take (Ak Aj v)) = 0) : C2 n u v = C2 (if (u.drop (Ak Aj u)) = [] ∧ (v.drop (Ak Aj v)) = [] then 1 else n - 1) (u.drop (Ak Aj u)) (v.drop (Ak Aj v)) := by
 rw [Sz hn h1 h2, if_neg (by simp [h3])]
 by_cases q : (u.drop (Ak Aj u)) = [] ∧ (v.drop (Ak Aj v)) = []
 ·rw [if_neg (by simp [q.1, q.2]), if_pos q, q.1, q.2, Q0p]
 ·rw [if_pos (by by_cases k : (u.drop (Ak Aj u)) = [] <;> simp_all), if_neg q]
theorem Va {n m : Nat} {u v : List UInt8} (h : u.length + v.length < n) (hm : n ≤ m) (h2 : 2 ≤ m) (w1 : Bm u = 0) (w2 : Bm v = 0) : (if (u.drop (Ak Aj u)) = [] ∧ (v.drop (Ak Aj v)) = [] then 1 else n - 1) < m ∧ (u.drop (Ak Aj u)).length + (v.drop (Ak Aj v)).length < (if (u.drop (Ak Aj u)) = [] ∧ (v.drop (Ak Aj v)) = [] then 1 else n - 1) := by
 by_cases q : (u.drop (Ak Aj u)) = [] ∧ (v.drop (Ak Aj v)) = []
 ·rw [if_pos q, q.1, q.2]; exact ⟨by omega, by decide⟩
 ·rw [if_neg q, List.length_drop, List.length_drop]
  have k1 := Ke w1
  have k2 := Ke w2
  have k3 : ¬ (u.length = 0 ∧ v.length = 0) := fun k => q ⟨by rw [List.length_eq_zero_iff.1 k.1]; simp, by rw [List.length_eq_zero_iff.1 k.2]; simp⟩
  have k4 := E6 Aj u
  have k5 := E6 Aj v
  omega
theorem Yk (s : List UInt8) : (decide (0 < (s.length : Int)) && decide (((Ae s 0).toNat : Int) = 126)) = Ay s 126 := by
 cases s with
 | nil => rfl
 | cons a r =>
  have ha : Ae (a :: r) 0 = a := by simp [Ae]
  rw [ha]; unfold Ay
  simp [← UInt8.toNat_inj]; omega
theorem Yj (s : List UInt8) : (decide (0 < (s.length : Int)) && decide (((Ae s 0).toNat : Int) = 94)) = Ay s 94 := by
 cases s with
 | nil => rfl
 | cons a r =>
  have ha : Ae (a :: r) 0 = a := by simp [Ae]
  rw [ha]; unfold Ay
  simp [← UInt8.toNat_inj]; omega
def U2 : Bool → List UInt8 → List UInt8 → Int
 | true => Cf
 | false => Lib.compareBytes
section
variable {r : List UInt8 → List UInt8 → Int} {u v : List UInt8}
theorem U5 (h : (Ay u 126 = true ∧ Ay v 126 = true) ∨ (Ay u 126 = false ∧ Ay v 126 = false ∧ Ay u 94 = true ∧ Ay v 94 = true)) : Cz r u v = r (u.drop 1) (v.drop 1) := by
 unfold Cz
 rcases h with ⟨h1, h2⟩ | ⟨h1, h2, h3, h4⟩ <;> simp_all
theorem U3 (h : (Ay u 126 == Ay v 126) = false) : Cz r u v = if Ay u 126 = true then -1 else 1 := by
 unfold Cz Eb
 cases h1 : Ay u 126 <;> cases h2 : Ay v 126 <;> simp_all
theorem Nv (h1 : Ay u 126 = false) (h2 : Ay v 126 = false) (h : (Ay u 94 = true ∧ Ay v 94 = false ∧ ¬ u = []) ∨ (Ay u 94 = false ∧ Ay v 94 = true ∧ ¬ v = [])) :
  Cz r u v = if Ay u 94 = true then (if v = [] then 1 else -1) else (if u = [] then -1 else 1) := by
 unfold Cz Eb
 by_cases e1 : u = [] <;> by_cases e2 : v = [] <;> rcases h with ⟨h3, h4, h5⟩ | ⟨h3, h4, h5⟩ <;> simp_all
theorem Q42 (h1 : Ay u 126 = false) (h2 : Ay v 126 = false) (h3 : Ay u 94 = false) (h4 : Ay v 94 = false) (h : u = [] ∨ v = []) : Cz r u v = Cg (u.length : Int) (v.length : Int) := by
 unfold Cz; rw [if_neg (by simp [h1, h2]), if_neg (by simp [h3, h4]), if_pos h]
theorem Q4z (h1 : Ay u 126 = false) (h2 : Ay v 126 = false) (h3 : Ay u 94 = false) (h4 : Ay v 94 = false) (h5 : ¬ u = []) (h6 : ¬ v = []) : Cz r u v =
  if Ak (Bw (Aj (Ae u 0))) v = 0 then (if Aj (Ae u 0) = true then 1 else -1)
  else if ¬ U2 (Aj (Ae u 0)) (u.take (Ak (Bw (Aj (Ae u 0))) u)) (v.take (Ak (Bw (Aj (Ae u 0))) v)) = 0 then U2 (Aj (Ae u 0)) (u.take (Ak (Bw (Aj (Ae u 0))) u)) (v.take (Ak (Bw (Aj (Ae u 0))) v))
  else r (u.drop (Ak (Bw (Aj (Ae u 0))) u)) (v.drop (Ak (Bw (Aj (Ae u 0))) v)) := by
 unfold Cz
 rw [if_neg (by simp [h1, h2]), if_neg (by simp [h3, h4]), if_neg (by simp [h5, h6])]
 cases Aj (Ae u 0) <;> rfl
theorem Q4s (hm : u = [] ∨ Et (Ae u 0) = true) (h1 : Ay u 126 = false) (h3 : Ay u 94 = false) (h5 : ¬ u = []) : 1 ≤ Ak (Bw (Aj (Ae u 0))) u := by
 have hl : 1 ≤ u.length := List.length_pos_iff.2 h5
 cases h : Aj (Ae u 0) with
 | true => exact Mv hl h
 | false => exact Mv (p := Bp) hl (Xk (hm.resolve_left h5) hl h1 h3 h)
theorem Om {k : UInt8} (h : Ay u k = true) : ¬ u = [] := fun e => by have := Jt h; rw [e] at this; simp at this
end
theorem Q41 {n : Nat} {a b : List UInt8} (hn : 1 ≤ n) : D9 n a b = Cz (D9 (n - 1)) (a.drop (Ak Ci a)) (b.drop (Ak Ci b)) := by
 obtain ⟨m, rfl⟩ : ∃ m, n = m + 1 := ⟨n - 1, by omega⟩
 rw [D9]; rfl
set_option maxHeartbeats 2000000 in
set_option maxRecDepth 100000 in
theorem Vp (n : Nat) (a0 b0 : List UInt8) (h0 : a0.length + b0.length < n) (ha : a0.length ≤ 4194304) (hb : b0.length ≤ 4194304) :
  FnV Tryz.prog 201 [(.str a0), (.str b0)] (.int .i64 (C2 n a0 b0)) := by
 refine A1 [.tmp 4] Tryz.func201 rfl Tryz.ntmps201 rfl rfl (fun B F hF => ?_)
 refine Aa [] [0, 1] ?_
 refine Ab ?_
 refine A0 ?_
 refine Bq (fun g y => ∃ (fu : Nat) (x z : List UInt8), x.length + z.length < fu ∧ x.length ≤ a0.length ∧ z.length ≤ b0.length ∧ C2 n a0 b0 = C2 fu x z ∧ y = ⟨[(0, (.str x)), (1, (.str z))], [], 0⟩ ∧ g = fu) [0, 1] 0 _ (by omega) ⟨n, a0, b0, (by exact h0), (by omega), (by omega), (by rfl), (by kernel_rfl), rfl⟩ ?_
 rintro g1 y1 ⟨fu, x, z, f1_1, f1_2, f1_3, f1_4, rfl, rfl⟩
 refine Ab ?_
 refine Ad (CS := [(5, ((!(decide (0 < (x.length : Int)))) = true → (!(decide (0 < (x.length : Int)))) = true)), (6, ((!(decide (0 < (x.length : Int)))) = true → (!(decide (0 < (x.length : Int)))) = true)), (7, ((decide (0 < (x.length : Int))) = false → (!(decide (0 < (x.length : Int)))) = true))]) [15, 16, 17] [0, 1, 18] [] hk0 v0 (by refine cc _ ?_ <| cc _ ?_ <| cc _ ?_ c0 <;> first | omega | (simp; omega) | (simp; done) | (intros; simp_all; omega) | (intros; simp_all; done)) ?_
 refine A3 (q := (decide (0 < (x.length : Int))) || (decide (0 < (z.length : Int)))) (by kernel_rfl) (fun c1 => ?_) (fun c1 => ?_)
 ·try simp only [Bool.and_eq_true, Bool.or_eq_true, Bool.and_eq_false_iff, Bool.or_eq_false_iff, Bool.not_eq_true', Bool.not_eq_false', decide_eq_true_eq, decide_eq_false_iff_not] at c1
  refine Ag ?_
  refine A0 ?_
  refine Ab ?_
  refine A0 ?_
  refine Bq (fun g y => ∃ (fi : Nat) (u v : List UInt8), u.length + v.length < fi ∧ u.length ≤ a0.length ∧ v.length ≤ b0.length ∧ fi ≤ g1 ∧ C2 n a0 b0 = C2 fi u v ∧ y = ⟨[(0, (.str u)), (1, (.str v))], [], 0⟩ ∧ g = fi) [0, 1] 0 _ (by omega) ⟨g1, x, z, (by omega), (by omega), (by omega), (by omega), (by exact f1_4), (by kernel_rfl), rfl⟩ ?_
  rintro g2 y2 ⟨fi, u, v, f2_1, f2_2, f2_3, f2_4, f2_5, rfl, rfl⟩
  refine A0 ?_
  refine Ad [] [0, 1, 5] [] (hk 1 Zs (Vm u) <| hk0) v0 c0 ?_
  refine Ad [] [0, 1, 5, 6] [] (hk 1 Zs (Vm v) <| hk0) v0 c0 ?_
  refine Ab ?_
  refine Ad (CS := [(4, ((!(F6 u)) = true → (!(F6 u)) = true)), (5, ((!(F6 u)) = true → (!(F6 u)) = true))]) [26, 27] [0, 1, 28] [] hk0 v0 (by refine cc _ ?_ <| cc _ ?_ c0 <;> first | omega | (simp; omega) | (simp; done) | (intros; simp_all; omega) | (intros; simp_all; done)) ?_
  refine A3 (q := (!(F6 u)) && (!(F6 v))) (by kernel_rfl) (fun c2 => ?_) (fun c2 => ?_)
  ·try simp only [Bool.and_eq_true, Bool.or_eq_true, Bool.and_eq_false_iff, Bool.or_eq_false_iff, Bool.not_eq_true', Bool.not_eq_false', decide_eq_true_eq, decide_eq_false_iff_not] at c2
   have hwu := Wp c2.1
   have hwv := Wp c2.2
   have hcu := E6 Aj u
   have hcv := E6 Aj v
   refine Bj ?_
   refine Ad [] [0, 1, 8] [] (hk 1 O8 (N4 u true (by omega)) <| hk0) v0 c0 ?_
   refine Ad [] [0, 1, 8, 9] [] (hk 1 O8 (N4 v true (by omega)) <| hk0) v0 c0 ?_
   refine Cn (CS := [(2, (0 ≤ (0 : Int) ∧ (0 : Int) ≤ (Ak Aj u : Int) ∧ (Ak Aj u : Int) ≤ (u.length : Int))), (5, (0 ≤ (0 : Int) ∧ (0 : Int) ≤ (Ak Aj v : Int) ∧ (Ak Aj v : Int) ≤ (v.length : Int)))]) [] [0, 1, 8, 9, 10] [] (hk 6 So (Q6 (u.take (Ak Aj u)) (v.take (Ak Aj v)) (by rw [List.length_take]; omega) (by rw [List.length_take]; omega)) <| hk0) v0 (by refine cc _ ?_ <| cc _ ?_ c0 <;> first | omega | (simp; omega) | (simp; done) | (intros; simp_all; omega) | (intros; simp_all; done)) ?_
   refine Ab ?_
   refine Aa [] [0, 1, 8, 9, 10, 54] ?_
   refine Cm (p := (Cf (u.take (Ak Aj u)) (v.take (Ak Aj v))) = 0) (by kernel_rfl) (fun c3 => ?_) (fun c3 => ?_)
   ·refine Aa [] [4] ?_
    refine Af ?_
    refine RK wR [(.int .i64 (Cf (u.take (Ak Aj u)) (v.take (Ak Aj v))))] ?_
    exact Same.of_eq (by simp only [Ah]; rw [f2_5, Sz (by omega) hwu hwv, if_pos c3])
   ·refine Ag ?_
    refine Ad [] [0, 1, 9] [] hk0 v0 (cc 2 (p := (0 ≤ (Ak Aj u : Int) ∧ (Ak Aj u : Int) ≤ (u.length : Int) ∧ (u.length : Int) ≤ (u.length : Int))) (by first | omega | (simp; omega) | (simp; done) | (intros; simp_all; omega) | (intros; simp_all; done)) <| c0) ?_
    refine Ar ?_
    refine Aw 0 [] [0, 1] [] hk0 v0 (cc 2 (p := (0 ≤ (Ak Aj v : Int) ∧ (Ak Aj v : Int) ≤ (v.length : Int) ∧ (v.length : Int) ≤ (v.length : Int))) (by first | omega | (simp; omega) | (simp; done) | (intros; simp_all; omega) | (intros; simp_all; done)) <| c0) ?_
    refine ⟨by kernel_rfl, _, ?_, (if (u.drop (Ak Aj u)) = [] ∧ (v.drop (Ak Aj v)) = [] then 1 else g2 - 1), (u.drop (Ak Aj u)), (v.drop (Ak Aj v)), ?_, ?_, ?_, ?_, (Eq.trans (b := (⟨[(0, (.str ((u.take u.length).drop (Ak Aj u)))), (1, (.str ((v.take v.length).drop (Ak Aj v))))], [], 0⟩ : St)) (by kernel_rfl) (by rw [List.take_length, List.take_length] <;> kernel_rfl)), rfl⟩
    have hrl := Va f2_1 f2_4 (by omega) hwu hwv
    ·exact hrl.1
    ·have hrl := Va f2_1 f2_4 (by omega) hwu hwv
     exact hrl.2
    ·rw [List.length_drop]; omega
    ·rw [List.length_drop]; omega
    ·rw [f2_5, X1w (by omega) hwu hwv (by assumption)]
  ·try simp only [Bool.and_eq_true, Bool.or_eq_true, Bool.and_eq_false_iff, Bool.or_eq_false_iff, Bool.not_eq_true', Bool.not_eq_false', decide_eq_true_eq, decide_eq_false_iff_not] at c2
   have hw : Bm u ≠ 0 ∨ Bm v ≠ 0 := c2.imp other_is.1 other_is.1
   have hwi := T8 u
   have hwj := T8 v
   refine Ag ?_
   refine Ad [] [0, 1, 7] [] (hk 1 Zr (Vf u) <| hk 3 Zr (Vf v) <| hk 5 Pa ((N3 ((Bm u) - (Bm v))).to (Same.of_eq (by rw [Pj]))) <| hk0) v0 (cc 4 (p := (-9223372036854775808 ≤ (Bm u) - (Bm v) ∧ (Bm u) - (Bm v) ≤ 9223372036854775807)) (by first | omega | (simp; omega) | (simp; done) | (intros; simp_all; omega) | (intros; simp_all; done)) <| c0) ?_
   refine Ab ?_
   refine Aa [] [0, 1, 7, 36] ?_
   refine Cm (p := (Cg (Bm u) (Bm v)) = 0) (by kernel_rfl) (fun c4 => ?_) (fun c4 => ?_)
   ·refine Aa [] [4] ?_
    refine Af ?_
    refine RK wR [(.int .i64 (Cg (Bm u) (Bm v)))] ?_
    exact Same.of_eq (by simp only [Ah]; rw [f2_5, Q0n (by omega) hw, if_pos (fun e => c4 (by rw [e, X19]))])
   ·have hwe := X18 c4
    have hpu := Nd (s := u) (by rcases hw with h | h <;> omega)
    have hpv := Nd (s := v) (by rcases hw with h | h <;> omega)
    refine Ag ?_
    refine Ad [] [0, 1] [] hk0 v0 (cc 1 (p := (0 ≤ (1 : Int) ∧ (1 : Int) ≤ (u.length : Int) ∧ (u.length : Int) ≤ (u.length : Int))) (by first | omega | (simp; omega) | (simp; done) | (intros; simp_all; omega) | (intros; simp_all; done)) <| c0) ?_
    refine Ar ?_
    refine Aw 0 [] [0, 1] [] hk0 v0 (cc 1 (p := (0 ≤ (1 : Int) ∧ (1 : Int) ≤ (v.length : Int) ∧ (v.length : Int) ≤ (v.length : Int))) (by first | omega | (simp; omega) | (simp; done) | (intros; simp_all; omega) | (intros; simp_all; done)) <| c0) ?_
    refine ⟨by kernel_rfl, _, ?_, g2 - 1, (u.drop 1), (v.drop 1), ?_, ?_, ?_, ?_, ?_, (Eq.trans (b := (⟨[(0, (.str ((u.take u.length).drop 1))), (1, (.str ((v.take v.length).drop 1)))], [], 0⟩ : St)) (by kernel_rfl) (by rw [List.take_length, List.take_length] <;> kernel_rfl)), rfl⟩
    ·omega
    ·rw [List.length_drop, List.length_drop]; omega
    ·rw [List.length_drop]; omega
    ·rw [List.length_drop]; omega
    ·omega
    ·rw [f2_5, Q0n (by omega) hw, if_neg (by simp [hwe])]
 ·try simp only [Bool.and_eq_true, Bool.or_eq_true, Bool.and_eq_false_iff, Bool.or_eq_false_iff, Bool.not_eq_true', Bool.not_eq_false', decide_eq_true_eq, decide_eq_false_iff_not] at c1
  refine Bj ?_
  refine Aa [] [4] ?_
  refine Af ?_
  refine RK wR [(.int .i64 0)] ?_
  exact Same.of_eq (by simp only [Ah]; rw [f1_4, show x = [] from List.length_eq_zero_iff.1 (by omega), show z = [] from List.length_eq_zero_iff.1 (by omega), Q0p])
set_option maxHeartbeats 2000000 in
set_option maxRecDepth 100000 in
theorem Vg (n : Nat) (a0 b0 : List UInt8) (h0 : a0.length + b0.length < n) (ha : a0.length ≤ 4194304) (hb : b0.length ≤ 4194304) :
  FnV Tryz.prog 202 [(.str a0), (.str b0)] (.int .i64 (D9 n a0 b0)) := by
 refine A1 [.tmp 4] Tryz.func202 rfl Tryz.ntmps202 rfl rfl (fun B F hF => ?_)
 refine Aa [] [0, 1] ?_
 refine A0 ?_
 refine Bq (fun g y => ∃ (fu : Nat) (x z : List UInt8), x.length + z.length < fu ∧ x.length ≤ a0.length ∧ z.length ≤ b0.length ∧ D9 n a0 b0 = D9 fu x z ∧ y = ⟨[(0, (.str x)), (1, (.str z))], [], 0⟩ ∧ g = fu) [0, 1] 0 _ (by omega) ⟨n, a0, b0, (by exact h0), (by omega), (by omega), (by rfl), (by kernel_rfl), rfl⟩ ?_
 rintro g1 y1 ⟨fu, x, z, f1_1, f1_2, f1_3, f1_4, rfl, rfl⟩
 refine A0 ?_
 refine Ad [] [0, 1] [] (hk 1 Zq (Vi x (by omega)) <| hk0) v0 c0 ?_
 refine Da (fun y => ∃ (u v : List UInt8), u = x.drop (Ak Ci x) ∧ v = z.drop (Ak Ci z) ∧ y = ⟨[(0, (.str u)), (1, (.str v))], [], 0⟩) [0, 1] 0 (by omega) ?_ ?_
 ·refine Ar ?_
  refine Aw 0 [] [0, 1] [] (hk 1 Zq (Vi z (by omega)) <| hk0) v0 c0 ?_
  refine ⟨by kernel_rfl, (x.drop (Ak Ci x)), (z.drop (Ak Ci z)), ?_, ?_, (by kernel_rfl)⟩
  ·rfl
  ·rfl
 ·rintro y1 ⟨u, v, ju, jv, rfl⟩
  have hlu : u.length ≤ x.length := by rw [ju, List.length_drop]; omega
  have hlv : v.length ≤ z.length := by rw [jv, List.length_drop]; omega
  have hW : D9 n a0 b0 = Cz (D9 (g1 - 1)) u v := by rw [f1_4, ju, jv]; exact Q41 (by omega)
  have hmu := Ok ju
  have hmv := Ok jv
  refine Ad (CS := [(5, ((decide (0 < (u.length : Int))) = true → ((decide (0 < (u.length : Int))) = true) ∧ (0 ≤ (0 : Int) ∧ 0 < u.length))), (6, ((decide (0 < (u.length : Int))) = true → (decide (0 < (u.length : Int))) = true)), (7, ((decide (0 < (u.length : Int))) = true → (decide (0 < (u.length : Int))) = true))]) [19, 20, 21] [0, 1, 5] [] hk0 (vk 8 22 (a := (.bool ((decide (0 < (u.length : Int))) && (decide (((Ae u 0).toNat : Int) = 126))))) (b := (.bool (Ay u 126))) (Imp.of_eq (congrArg AV.bool (Yk u))) <| v0) (by refine cc _ ?_ <| cc _ ?_ <| cc _ ?_ c0 <;> first | omega | (simp; omega) | (simp; done) | (intros; simp_all; omega) | (intros; simp_all; done)) ?_
  refine Ad (CS := [(5, ((decide (0 < (v.length : Int))) = true → ((decide (0 < (v.length : Int))) = true) ∧ (0 ≤ (0 : Int) ∧ 0 < v.length))), (6, ((decide (0 < (v.length : Int))) = true → (decide (0 < (v.length : Int))) = true)), (7, ((decide (0 < (v.length : Int))) = true → (decide (0 < (v.length : Int))) = true))]) [27, 28, 29] [0, 1, 5, 6] [] hk0 (vk 8 30 (a := (.bool ((decide (0 < (v.length : Int))) && (decide (((Ae v 0).toNat : Int) = 126))))) (b := (.bool (Ay v 126))) (Imp.of_eq (congrArg AV.bool (Yk v))) <| v0) (by refine cc _ ?_ <| cc _ ?_ <| cc _ ?_ c0 <;> first | omega | (simp; omega) | (simp; done) | (intros; simp_all; omega) | (intros; simp_all; done)) ?_
  refine Ab ?_
  refine Aa [] [0, 1, 5, 33] ?_
  refine A3 (q := !((Ay u 126) == (Ay v 126))) (by kernel_rfl) (fun c1 => ?_) (fun c1 => ?_)
  ·try simp only [Bool.and_eq_true, Bool.or_eq_true, Bool.and_eq_false_iff, Bool.or_eq_false_iff, Bool.not_eq_true', Bool.not_eq_false', decide_eq_true_eq, decide_eq_false_iff_not] at c1
   refine Ab ?_
   refine Aa [] [34] ?_
   refine A3 (q := Ay u 126) (by kernel_rfl) (fun c2 => ?_) (fun c2 => ?_)
   ·try simp only [Bool.and_eq_true, Bool.or_eq_true, Bool.and_eq_false_iff, Bool.or_eq_false_iff, Bool.not_eq_true', Bool.not_eq_false', decide_eq_true_eq, decide_eq_false_iff_not] at c2
    refine Aa [] [4] ?_
    refine Af ?_
    refine RK wR [(.int .i64 (-1))] ?_
    exact Same.of_eq (by simp only [Ah]; rw [hW, U3 c1, if_pos c2])
   ·try simp only [Bool.and_eq_true, Bool.or_eq_true, Bool.and_eq_false_iff, Bool.or_eq_false_iff, Bool.not_eq_true', Bool.not_eq_false', decide_eq_true_eq, decide_eq_false_iff_not] at c2
    refine Ag ?_
    refine Aa [] [4] ?_
    refine Af ?_
    refine RK wR [(.int .i64 1)] ?_
    exact Same.of_eq (by simp only [Ah]; rw [hW, U3 c1, if_neg (by simp [c2])])
  ·try simp only [Bool.and_eq_true, Bool.or_eq_true, Bool.and_eq_false_iff, Bool.or_eq_false_iff, Bool.not_eq_true', Bool.not_eq_false', decide_eq_true_eq, decide_eq_false_iff_not] at c1
   refine Ag ?_
   refine Ab ?_
   refine Aa [] [0, 1, 35] ?_
   refine A3 (q := Ay u 126) (by kernel_rfl) (fun c3 => ?_) (fun c3 => ?_)
   ·try simp only [Bool.and_eq_true, Bool.or_eq_true, Bool.and_eq_false_iff, Bool.or_eq_false_iff, Bool.not_eq_true', Bool.not_eq_false', decide_eq_true_eq, decide_eq_false_iff_not] at c3
    have hv1 : Ay v 126 = true := by simp_all
    have hp1 := Jt c3
    have hp2 := Jt hv1
    refine Ad [] [0, 1] [] hk0 v0 (cc 1 (p := (0 ≤ (1 : Int) ∧ (1 : Int) ≤ (u.length : Int) ∧ (u.length : Int) ≤ (u.length : Int))) (by first | omega | (simp; omega) | (simp; done) | (intros; simp_all; omega) | (intros; simp_all; done)) <| c0) ?_
    refine Ad [] [0, 1] [] hk0 v0 (cc 1 (p := (0 ≤ (1 : Int) ∧ (1 : Int) ≤ (v.length : Int) ∧ (v.length : Int) ≤ (v.length : Int))) (by first | omega | (simp; omega) | (simp; done) | (intros; simp_all; omega) | (intros; simp_all; done)) <| c0) ?_
    refine Bj ?_
    refine ⟨by kernel_rfl, _, ?_, g1 - 1, (u.drop 1), (v.drop 1), ?_, ?_, ?_, ?_, (Eq.trans (b := (⟨[(0, (.str ((u.take u.length).drop 1))), (1, (.str ((v.take v.length).drop 1)))], [], 0⟩ : St)) (by kernel_rfl) (by rw [List.take_length, List.take_length] <;> kernel_rfl)), rfl⟩
    ·omega
    ·rw [List.length_drop, List.length_drop]; omega
    ·rw [List.length_drop]; omega
    ·rw [List.length_drop]; omega
    ·rw [hW, U5 (.inl ⟨c3, hv1⟩)]
   ·try simp only [Bool.and_eq_true, Bool.or_eq_true, Bool.and_eq_false_iff, Bool.or_eq_false_iff, Bool.not_eq_true', Bool.not_eq_false', decide_eq_true_eq, decide_eq_false_iff_not] at c3
    have hv0 : Ay v 126 = false := by simp_all
    refine Ag ?_
    refine Ad (CS := [(5, ((decide (0 < (u.length : Int))) = true → ((decide (0 < (u.length : Int))) = true) ∧ (0 ≤ (0 : Int) ∧ 0 < u.length))), (6, ((decide (0 < (u.length : Int))) = true → (decide (0 < (u.length : Int))) = true)), (7, ((decide (0 < (u.length : Int))) = true → (decide (0 < (u.length : Int))) = true))]) [44, 45, 46] [0, 1, 5] [] hk0 (vk 8 47 (a := (.bool ((decide (0 < (u.length : Int))) && (decide (((Ae u 0).toNat : Int) = 94))))) (b := (.bool (Ay u 94))) (Imp.of_eq (congrArg AV.bool (Yj u))) <| v0) (by refine cc _ ?_ <| cc _ ?_ <| cc _ ?_ c0 <;> first | omega | (simp; omega) | (simp; done) | (intros; simp_all; omega) | (intros; simp_all; done)) ?_
    refine Ad (CS := [(5, ((decide (0 < (v.length : Int))) = true → ((decide (0 < (v.length : Int))) = true) ∧ (0 ≤ (0 : Int) ∧ 0 < v.length))), (6, ((decide (0 < (v.length : Int))) = true → (decide (0 < (v.length : Int))) = true)), (7, ((decide (0 < (v.length : Int))) = true → (decide (0 < (v.length : Int))) = true))]) [52, 53, 54] [0, 1, 5, 6] [] hk0 (vk 8 55 (a := (.bool ((decide (0 < (v.length : Int))) && (decide (((Ae v 0).toNat : Int) = 94))))) (b := (.bool (Ay v 94))) (Imp.of_eq (congrArg AV.bool (Yj v))) <| v0) (by refine cc _ ?_ <| cc _ ?_ <| cc _ ?_ c0 <;> first | omega | (simp; omega) | (simp; done) | (intros; simp_all; omega) | (intros; simp_all; done)) ?_
    refine Ab ?_
    refine Ad [58] [0, 1, 5, 6, 59] [] hk0 v0 (cc 3 (p := ((Ay u 94) = true → (Ay u 94) = true)) (by first | omega | (simp; omega) | (simp; done) | (intros; simp_all; omega) | (intros; simp_all; done)) <| c0) ?_
    refine A3 (q := (Ay u 94) && (Ay v 94)) (by kernel_rfl) (fun c4 => ?_) (fun c4 => ?_)
    ·try simp only [Bool.and_eq_true, Bool.or_eq_true, Bool.and_eq_false_iff, Bool.or_eq_false_iff, Bool.not_eq_true', Bool.not_eq_false', decide_eq_true_eq, decide_eq_false_iff_not] at c4
     have hp1 := Jt c4.1
     have hp2 := Jt c4.2
     refine Ad [] [0, 1] [] hk0 v0 (cc 1 (p := (0 ≤ (1 : Int) ∧ (1 : Int) ≤ (u.length : Int) ∧ (u.length : Int) ≤ (u.length : Int))) (by first | omega | (simp; omega) | (simp; done) | (intros; simp_all; omega) | (intros; simp_all; done)) <| c0) ?_
     refine Ad [] [0, 1] [] hk0 v0 (cc 1 (p := (0 ≤ (1 : Int) ∧ (1 : Int) ≤ (v.length : Int) ∧ (v.length : Int) ≤ (v.length : Int))) (by first | omega | (simp; omega) | (simp; done) | (intros; simp_all; omega) | (intros; simp_all; done)) <| c0) ?_
     refine Bj ?_
     refine ⟨by kernel_rfl, _, ?_, g1 - 1, (u.drop 1), (v.drop 1), ?_, ?_, ?_, ?_, (Eq.trans (b := (⟨[(0, (.str ((u.take u.length).drop 1))), (1, (.str ((v.take v.length).drop 1)))], [], 0⟩ : St)) (by kernel_rfl) (by rw [List.take_length, List.take_length] <;> kernel_rfl)), rfl⟩
     ·omega
     ·rw [List.length_drop, List.length_drop]; omega
     ·rw [List.length_drop]; omega
     ·rw [List.length_drop]; omega
     ·rw [hW, U5 (.inr ⟨c3, hv0, c4⟩)]
    ·try simp only [Bool.and_eq_true, Bool.or_eq_true, Bool.and_eq_false_iff, Bool.or_eq_false_iff, Bool.not_eq_true', Bool.not_eq_false', decide_eq_true_eq, decide_eq_false_iff_not] at c4
     refine Ag ?_
     refine Ab ?_
     refine Aa [] [0, 1, 6, 64] ?_
     refine A3 (q := Ay u 94) (by kernel_rfl) (fun c5 => ?_) (fun c5 => ?_)
     ·try simp only [Bool.and_eq_true, Bool.or_eq_true, Bool.and_eq_false_iff, Bool.or_eq_false_iff, Bool.not_eq_true', Bool.not_eq_false', decide_eq_true_eq, decide_eq_false_iff_not] at c5
      have hv9 : Ay v 94 = false := by simp_all
      refine Ab ?_
      refine Aa [] [67] ?_
      refine A2 (p := (v.length : Int) = 0) (by kernel_rfl) (fun c6 => ?_) (fun c6 => ?_)
      ·refine Aa [] [4] ?_
       refine Af ?_
       refine RK wR [(.int .i64 1)] ?_
       exact Same.of_eq (by simp only [Ah]; rw [hW, Nv c3 hv0 (.inl ⟨c5, hv9, Om c5⟩), if_pos c5, if_pos (List.length_eq_zero_iff.1 (by omega))])
      ·refine Ag ?_
       refine Aa [] [4] ?_
       refine Af ?_
       refine RK wR [(.int .i64 (-1))] ?_
       exact Same.of_eq (by simp only [Ah]; rw [hW, Nv c3 hv0 (.inl ⟨c5, hv9, Om c5⟩), if_pos c5, if_neg (fun e => c6 (by rw [e]; rfl))])
     ·try simp only [Bool.and_eq_true, Bool.or_eq_true, Bool.and_eq_false_iff, Bool.or_eq_false_iff, Bool.not_eq_true', Bool.not_eq_false', decide_eq_true_eq, decide_eq_false_iff_not] at c5
      refine Ag ?_
      refine Ab ?_
      refine Aa [] [0, 1, 68] ?_
      refine A3 (q := Ay v 94) (by kernel_rfl) (fun c7 => ?_) (fun c7 => ?_)
      ·try simp only [Bool.and_eq_true, Bool.or_eq_true, Bool.and_eq_false_iff, Bool.or_eq_false_iff, Bool.not_eq_true', Bool.not_eq_false', decide_eq_true_eq, decide_eq_false_iff_not] at c7
       refine Ab ?_
       refine Aa [] [71] ?_
       refine A2 (p := (u.length : Int) = 0) (by kernel_rfl) (fun c8 => ?_) (fun c8 => ?_)
       ·refine Aa [] [4] ?_
        refine Af ?_
        refine RK wR [(.int .i64 (-1))] ?_
        exact Same.of_eq (by simp only [Ah]; rw [hW, Nv c3 hv0 (.inr ⟨c5, c7, Om c7⟩), if_neg (by simp [c5]), if_pos (List.length_eq_zero_iff.1 (by omega))])
       ·refine Ag ?_
        refine Aa [] [4] ?_
        refine Af ?_
        refine RK wR [(.int .i64 1)] ?_
        exact Same.of_eq (by simp only [Ah]; rw [hW, Nv c3 hv0 (.inr ⟨c5, c7, Om c7⟩), if_neg (by simp [c5]), if_neg (fun e => c8 (by rw [e]; rfl))])
      ·try simp only [Bool.and_eq_true, Bool.or_eq_true, Bool.and_eq_false_iff, Bool.or_eq_false_iff, Bool.not_eq_true', Bool.not_eq_false', decide_eq_true_eq, decide_eq_false_iff_not] at c7
       refine Ag ?_
       refine Ab ?_
       refine Ad (CS := [(5, ((!(decide ((u.length : Int) = 0))) = true → (!(decide ((u.length : Int) = 0))) = true)), (6, ((!(decide ((u.length : Int) = 0))) = true → (!(decide ((u.length : Int) = 0))) = true)), (7, ((decide ((u.length : Int) = 0)) = false → (!(decide ((u.length : Int) = 0))) = true))]) [76, 77, 78] [0, 1, 79] [] hk0 v0 (by refine cc _ ?_ <| cc _ ?_ <| cc _ ?_ c0 <;> first | omega | (simp; omega) | (simp; done) | (intros; simp_all; omega) | (intros; simp_all; done)) ?_
       refine A3 (q := (decide ((u.length : Int) = 0)) || (decide ((v.length : Int) = 0))) (by kernel_rfl) (fun c9 => ?_) (fun c9 => ?_)
       ·try simp only [Bool.and_eq_true, Bool.or_eq_true, Bool.and_eq_false_iff, Bool.or_eq_false_iff, Bool.not_eq_true', Bool.not_eq_false', decide_eq_true_eq, decide_eq_false_iff_not] at c9
        refine Ad [] [4] [] (hk 5 Pa ((N3 ((u.length : Int) - (v.length : Int))).to (Same.of_eq (by rw [Pj]))) <| hk0) v0 (cc 4 (p := (-9223372036854775808 ≤ (u.length : Int) - (v.length : Int) ∧ (u.length : Int) - (v.length : Int) ≤ 9223372036854775807)) (by first | omega | (simp; omega) | (simp; done) | (intros; simp_all; omega) | (intros; simp_all; done)) <| c0) ?_
        refine Af ?_
        refine RK wR [(.int .i64 (Cg (u.length : Int) (v.length : Int)))] ?_
        exact Same.of_eq (by simp only [Ah]; rw [hW, Q42 c3 hv0 c5 c7 (by rcases c9 with h | h; exact .inl (List.length_eq_zero_iff.1 (by omega)); exact .inr (List.length_eq_zero_iff.1 (by omega)))])
       ·try simp only [Bool.and_eq_true, Bool.or_eq_true, Bool.and_eq_false_iff, Bool.or_eq_false_iff, Bool.not_eq_true', Bool.not_eq_false', decide_eq_true_eq, decide_eq_false_iff_not] at c9
        have hun : ¬ u = [] := fun e => c9.1 (by rw [e]; rfl)
        have hvn : ¬ v = [] := fun e => c9.2 (by rw [e]; rfl)
        have hrt := Q4z (r := D9 (g1 - 1)) c3 hv0 c5 c7 hun hvn
        have hru := Q4s hmu c3 c5 hun
        have hcu := E6 (Bw (Aj (Ae u 0))) u
        have hcv := E6 (Bw (Aj (Ae u 0))) v
        refine Ag ?_
        refine Ad [] [0, 1, 7] [] (hk 2 Jy (Jd (Ae u 0)) <| hk0) v0 (cc 1 (p := (0 ≤ (0 : Int) ∧ 0 < u.length)) (by first | omega | (simp; omega) | (simp; done) | (intros; simp_all; omega) | (intros; simp_all; done)) <| c0) ?_
        refine Ad [] [0, 1, 7, 8] [] (hk 2 O8 (N4 u (Aj (Ae u 0)) (by omega)) <| hk0) v0 c0 ?_
        refine Ad [] [0, 1, 7, 8, 9] [] (hk 2 O8 (N4 v (Aj (Ae u 0)) (by omega)) <| hk0) v0 c0 ?_
        refine Ab ?_
        refine Aa [] [0, 1, 7, 8, 9, 96] ?_
        refine A2 (p := (Ak (Bw (Aj (Ae u 0))) v : Int) = 0) (by kernel_rfl) (fun c10 => ?_) (fun c10 => ?_)
        ·refine Ab ?_
         refine Aa [] [97] ?_
         refine A3 (q := Aj (Ae u 0)) (by kernel_rfl) (fun c11 => ?_) (fun c11 => ?_)
         ·try simp only [Bool.and_eq_true, Bool.or_eq_true, Bool.and_eq_false_iff, Bool.or_eq_false_iff, Bool.not_eq_true', Bool.not_eq_false', decide_eq_true_eq, decide_eq_false_iff_not] at c11
          refine Aa [] [4] ?_
          refine Af ?_
          refine RK wR [(.int .i64 1)] ?_
          exact Same.of_eq (by simp only [Ah]; rw [hW, hrt, if_pos (by omega), if_pos c11])
         ·try simp only [Bool.and_eq_true, Bool.or_eq_true, Bool.and_eq_false_iff, Bool.or_eq_false_iff, Bool.not_eq_true', Bool.not_eq_false', decide_eq_true_eq, decide_eq_false_iff_not] at c11
          refine Ag ?_
          refine Aa [] [4] ?_
          refine Af ?_
          refine RK wR [(.int .i64 (-1))] ?_
          exact Same.of_eq (by simp only [Ah]; rw [hW, hrt, if_pos (by omega), if_neg (by simp [c11])])
        ·refine Ag ?_
         refine Cn (CS := [(2, (0 ≤ (0 : Int) ∧ (0 : Int) ≤ (Ak (Bw (Aj (Ae u 0))) u : Int) ∧ (Ak (Bw (Aj (Ae u 0))) u : Int) ≤ (u.length : Int))), (5, (0 ≤ (0 : Int) ∧ (0 : Int) ≤ (Ak (Bw (Aj (Ae u 0))) v : Int) ∧ (Ak (Bw (Aj (Ae u 0))) v : Int) ≤ (v.length : Int)))]) [] [0, 1, 7, 8, 9, 10] [] (hk 6 Zt (Vh (u.take (Ak (Bw (Aj (Ae u 0))) u)) (v.take (Ak (Bw (Aj (Ae u 0))) v))) <| hk0) v0 (by refine cc _ ?_ <| cc _ ?_ c0 <;> first | omega | (simp; omega) | (simp; done) | (intros; simp_all; omega) | (intros; simp_all; done)) ?_
         refine Ab ?_
         refine Aa [] [0, 1, 8, 9, 10, 105] ?_
         refine A3 (q := Aj (Ae u 0)) (by kernel_rfl) (fun c12 => ?_) (fun c12 => ?_)
         ·try simp only [Bool.and_eq_true, Bool.or_eq_true, Bool.and_eq_false_iff, Bool.or_eq_false_iff, Bool.not_eq_true', Bool.not_eq_false', decide_eq_true_eq, decide_eq_false_iff_not] at c12
          refine Gh (CS := [(2, (0 ≤ (0 : Int) ∧ (0 : Int) ≤ (Ak (Bw (Aj (Ae u 0))) u : Int) ∧ (Ak (Bw (Aj (Ae u 0))) u : Int) ≤ (u.length : Int))), (5, (0 ≤ (0 : Int) ∧ (0 : Int) ≤ (Ak (Bw (Aj (Ae u 0))) v : Int) ∧ (Ak (Bw (Aj (Ae u 0))) v : Int) ≤ (v.length : Int)))]) [] [0, 1, 8, 9, 10] [] (hk 6 So (Q6 (u.take (Ak (Bw (Aj (Ae u 0))) u)) (v.take (Ak (Bw (Aj (Ae u 0))) v)) (by rw [List.length_take]; omega) (by rw [List.length_take]; omega)) <| hk0) v0 (by refine cc _ ?_ <| cc _ ?_ c0 <;> first | omega | (simp; omega) | (simp; done) | (intros; simp_all; omega) | (intros; simp_all; done)) ?_
          refine Ab ?_
          refine Aa [] [0, 1, 8, 9, 10, 114] ?_
          refine Cm (p := (Cf (u.take (Ak (Bw (Aj (Ae u 0))) u)) (v.take (Ak (Bw (Aj (Ae u 0))) v))) = 0) (by kernel_rfl) (fun c13 => ?_) (fun c13 => ?_)
          ·refine Aa [] [4] ?_
           refine Af ?_
           refine RK wR [(.int .i64 (Cf (u.take (Ak (Bw (Aj (Ae u 0))) u)) (v.take (Ak (Bw (Aj (Ae u 0))) v))))] ?_
           exact Same.of_eq (by simp only [Ah]; rw [hW, hrt, if_neg (by omega), if_pos (by rw [c12]; rw [c12] at c13; exact c13), c12]; rfl)
          ·refine Ag ?_
           refine Ad [] [0, 1, 9] [] hk0 v0 (cc 2 (p := (0 ≤ (Ak (Bw (Aj (Ae u 0))) u : Int) ∧ (Ak (Bw (Aj (Ae u 0))) u : Int) ≤ (u.length : Int) ∧ (u.length : Int) ≤ (u.length : Int))) (by first | omega | (simp; omega) | (simp; done) | (intros; simp_all; omega) | (intros; simp_all; done)) <| c0) ?_
           refine Ar ?_
           refine Aw 0 [] [0, 1] [] hk0 v0 (cc 2 (p := (0 ≤ (Ak (Bw (Aj (Ae u 0))) v : Int) ∧ (Ak (Bw (Aj (Ae u 0))) v : Int) ≤ (v.length : Int) ∧ (v.length : Int) ≤ (v.length : Int))) (by first | omega | (simp; omega) | (simp; done) | (intros; simp_all; omega) | (intros; simp_all; done)) <| c0) ?_
           refine ⟨by kernel_rfl, _, ?_, g1 - 1, (u.drop (Ak (Bw (Aj (Ae u 0))) u)), (v.drop (Ak (Bw (Aj (Ae u 0))) v)), ?_, ?_, ?_, ?_, (Eq.trans (b := (⟨[(0, (.str ((u.take u.length).drop (Ak (Bw (Aj (Ae u 0))) u)))), (1, (.str ((v.take v.length).drop (Ak (Bw (Aj (Ae u 0))) v))))], [], 0⟩ : St)) (by kernel_rfl) (by rw [List.take_length, List.take_length] <;> kernel_rfl)), rfl⟩
           ·omega
           ·rw [List.length_drop, List.length_drop]; omega
           ·rw [List.length_drop]; omega
           ·rw [List.length_drop]; omega
           ·rw [hW, hrt, if_neg (by omega), if_neg (fun k => k (by rw [c12]; rw [c12] at c13; exact c13))]
         ·try simp only [Bool.and_eq_true, Bool.or_eq_true, Bool.and_eq_false_iff, Bool.or_eq_false_iff, Bool.not_eq_true', Bool.not_eq_false', decide_eq_true_eq, decide_eq_false_iff_not] at c12
          refine Ag ?_
          refine Ab ?_
          refine Aa [] [0, 1, 8, 9, 10, 114] ?_
          refine Cm (p := (Lib.compareBytes (u.take (Ak (Bw (Aj (Ae u 0))) u)) (v.take (Ak (Bw (Aj (Ae u 0))) v))) = 0) (by kernel_rfl) (fun c14 => ?_) (fun c14 => ?_)
          ·refine Aa [] [4] ?_
           refine Af ?_
           refine RK wR [(.int .i64 (Lib.compareBytes (u.take (Ak (Bw (Aj (Ae u 0))) u)) (v.take (Ak (Bw (Aj (Ae u 0))) v))))] ?_
           exact Same.of_eq (by simp only [Ah]; rw [hW, hrt, if_neg (by omega), if_pos (by rw [c12]; rw [c12] at c14; exact c14), c12]; rfl)
          ·refine Ag ?_
           refine Ad [] [0, 1, 9] [] hk0 v0 (cc 2 (p := (0 ≤ (Ak (Bw (Aj (Ae u 0))) u : Int) ∧ (Ak (Bw (Aj (Ae u 0))) u : Int) ≤ (u.length : Int) ∧ (u.length : Int) ≤ (u.length : Int))) (by first | omega | (simp; omega) | (simp; done) | (intros; simp_all; omega) | (intros; simp_all; done)) <| c0) ?_
           refine Ar ?_
           refine Aw 0 [] [0, 1] [] hk0 v0 (cc 2 (p := (0 ≤ (Ak (Bw (Aj (Ae u 0))) v : Int) ∧ (Ak (Bw (Aj (Ae u 0))) v : Int) ≤ (v.length : Int) ∧ (v.length : Int) ≤ (v.length : Int))) (by first | omega | (simp; omega) | (simp; done) | (intros; simp_all; omega) | (intros; simp_all; done)) <| c0) ?_
           refine ⟨by kernel_rfl, _, ?_, g1 - 1, (u.drop (Ak (Bw (Aj (Ae u 0))) u)), (v.drop (Ak (Bw (Aj (Ae u 0))) v)), ?_, ?_, ?_, ?_, (Eq.trans (b := (⟨[(0, (.str ((u.take u.length).drop (Ak (Bw (Aj (Ae u 0))) u)))), (1, (.str ((v.take v.length).drop (Ak (Bw (Aj (Ae u 0))) v))))], [], 0⟩ : St)) (by kernel_rfl) (by rw [List.take_length, List.take_length] <;> kernel_rfl)), rfl⟩
           ·omega
           ·rw [List.length_drop, List.length_drop]; omega
           ·rw [List.length_drop]; omega
           ·rw [List.length_drop]; omega
           ·rw [hW, hrt, if_neg (by omega), if_neg (fun k => k (by rw [c12]; rw [c12] at c14; exact c14))]
end Sv
end Go.Proofs.YtlfjokcbkopfeaaGreatDoor
end
section
namespace Go.Proofs.YtlfjokcbkopfeaaGreatDoor
open Go Go.RowKit
namespace Sv
attribute [local irreducible] SW SO Bg
theorem Z4 : Am Tryz.prog 168 := Av Tryz.func168 (by kernel_rfl) rfl
theorem Z3 : Am Tryz.prog 169 := Av Tryz.func169 (by kernel_rfl) rfl
theorem X09 : Am Tryz.prog 134 := Av Tryz.func134 (by kernel_rfl) rfl
theorem X0r : Am Tryz.prog 160 := Av Tryz.func160 (by kernel_rfl) rfl
theorem Hm : Am Tryz.prog 182 := Av Tryz.func182 (by kernel_rfl) rfl
theorem Q48 {a b : List UInt8} (h : a = [] ∨ b = []) : Cg (a.length : Int) (b.length : Int) = Eb (!decide (a = [])) (!decide (b = [])) 1 := by
 unfold Cg Eb
 cases a <;> cases b <;> simp_all
 all_goals omega
theorem Gc {s : List UInt8} (h : ¬ Bz s = 0) : B7 s = ([], [], []) := by unfold B7; rw [if_neg h]
def Al (op bit : Int) : Bool := decide (Int.tmod (Int.tdiv op bit) 2 = 1)
theorem to7 {op : Int} (h : 0 ≤ op ∧ op ≤ 7) : op = 0 ∨ op = 1 ∨ op = 2 ∨ op = 3 ∨ op = 4 ∨ op = 5 ∨ op = 6 ∨ op = 7 := by omega
theorem Q8s {op bit : Int} (h : 0 ≤ op ∧ op ≤ 7) (k : bit = 1 ∨ bit = 2 ∨ bit = 4) : 0 ≤ Int.tdiv op bit ∧ Int.tdiv op bit ≤ 7 := by
 rcases to7 h with rfl | rfl | rfl | rfl | rfl | rfl | rfl | rfl <;> rcases k with rfl | rfl | rfl <;> decide
theorem Ox {op bit : Int} (h : 0 ≤ op ∧ op ≤ 7) (k : bit = 1 ∨ bit = 4) : Al op bit = !decide (Go.bits .and .i64 op bit = 0) := by
 rcases to7 h with rfl | rfl | rfl | rfl | rfl | rfl | rfl | rfl <;> rcases k with rfl | rfl <;> rfl
theorem Q8t {op o : Int} (h : 0 ≤ op ∧ op ≤ 7) (k : 0 ≤ o ∧ o ≤ 7) : ((Al op 2 && Al o 2) || ((Al op 1 && Al o 1) || (Al op 4 && Al o 4))) = !decide (Go.bits .and .i64 op o = 0) := by
 rcases to7 h with rfl | rfl | rfl | rfl | rfl | rfl | rfl | rfl <;> rcases to7 k with rfl | rfl | rfl | rfl | rfl | rfl | rfl | rfl <;> rfl
set_option maxHeartbeats 1000000 in
set_option maxRecDepth 100000 in
theorem Vl (k : Int) (a b : (List UInt8 × List UInt8 × List UInt8)) (ha : a.1.length ≤ 4194304 ∧ a.2.1.length ≤ 4194304 ∧ a.2.2.length ≤ 4194304) (hb : b.1.length ≤ 4194304 ∧ b.2.1.length ≤ 4194304 ∧ b.2.2.length ≤ 4194304) :
  FnV Tryz.prog 169 [(.int .i64 k), (.agg [(.str a.1), (.str a.2.1), (.str a.2.2)]), (.agg [(.str b.1), (.str b.2.1), (.str b.2.2)])] (.tup [.int .i64 (Bn k a b).1, .int .i64 (Bn k a b).2]) := by
 refine A1 [.tmp 6, .tmp 7] Tryz.func169 rfl Tryz.ntmps169 rfl rfl (fun B F hF => ?_)
 refine Ad [] [0, 4, 5] [(1, 4), (2, 5)] hk0 v0 c0 ?_
 refine Ad [] [0, 4, 5, 8] [] (hk 4 So (Q6 a.1 b.1 ha.1 hb.1) <| hk0) v0 c0 ?_
 refine Ab ?_
 refine Aa [] [4, 5, 8, 17] ?_
 refine A2 (p := k = 2) (by kernel_rfl) (fun c1 => ?_) (fun c1 => ?_)
 ·refine Da (fun y => ∃ (c : Int), c = orI (Cf a.1 b.1) (Gy a.2.1 b.2.1) ∧ y = ⟨[(4, (.fp (.agg [(.str a.1), (.str a.2.1), (.str a.2.2)]))), (5, (.fp (.agg [(.str b.1), (.str b.2.1), (.str b.2.2)]))), (8, (.int .i64 c))], [], 2⟩) [4, 5, 8] 2 (by omega) ?_ ?_
  ·refine Aa [] [4, 5, 8, 19] ?_
   refine A2 (p := (Cf a.1 b.1) = 0) (by kernel_rfl) (fun c2 => ?_) (fun c2 => ?_)
   ·refine Ar ?_
    refine Aw 0 [] [4, 5, 8] [] (hk 4 Zw (Vp _ a.2.1 b.2.1 (Nat.lt_succ_self _) (by first | omega | (rw [jra]; exact Ec ha.2.2) | (rw [jrb]; exact Ec hb.2.2)) (by first | omega | (rw [jra]; exact Ec ha.2.2) | (rw [jrb]; exact Ec hb.2.2))) <| hk0) v0 c0 ?_
    refine ⟨by kernel_rfl, (Gy a.2.1 b.2.1), ?_, (by kernel_rfl)⟩
    unfold orI
    rw [if_pos (by assumption)]
   ·refine Ag ?_
    refine ⟨by kernel_rfl, (Cf a.1 b.1), ?_, (by kernel_rfl)⟩
    unfold orI
    rw [if_neg (by assumption)]
  ·rintro y1 ⟨c, jc, rfl⟩
   refine Aa [] [5, 8, 9] ?_
   refine Aa [] [8, 9, 10] ?_
   refine Da (fun y => ∃ (ra : List UInt8), ra = orS a.2.2 [48] ∧ y = ⟨[(8, (.int .i64 c)), (9, (.str ra)), (10, (.str b.2.2))], [], 2⟩) [8, 9, 10] 2 (by omega) ?_ ?_
   ·refine Aa [] [8, 9, 10, 30] ?_
    refine A2 (p := a.2.2 = []) (by kernel_rfl) (fun c3 => ?_) (fun c3 => ?_)
    ·refine Ar ?_
     refine Ep [] [8, 9, 10] ?_
     refine ⟨by kernel_rfl, [48], ?_, (by kernel_rfl)⟩
     unfold orS
     rw [if_pos (by assumption)]
    ·refine Ag ?_
     refine ⟨by kernel_rfl, a.2.2, ?_, (by kernel_rfl)⟩
     unfold orS
     rw [if_neg (by assumption)]
   ·rintro y2 ⟨ra, jra, rfl⟩
    refine Da (fun y => ∃ (rb : List UInt8), rb = orS b.2.2 [48] ∧ y = ⟨[(8, (.int .i64 c)), (9, (.str ra)), (10, (.str rb))], [], 2⟩) [8, 9, 10] 2 (by omega) ?_ ?_
    ·refine Aa [] [8, 9, 10, 32] ?_
     refine A2 (p := b.2.2 = []) (by kernel_rfl) (fun c4 => ?_) (fun c4 => ?_)
     ·refine Ar ?_
      refine Ep [] [8, 9, 10] ?_
      refine ⟨by kernel_rfl, [48], ?_, (by kernel_rfl)⟩
      unfold orS
      rw [if_pos (by assumption)]
     ·refine Ag ?_
      refine ⟨by kernel_rfl, b.2.2, ?_, (by kernel_rfl)⟩
      unfold orS
      rw [if_neg (by assumption)]
    ·rintro y3 ⟨rb, jrb, rfl⟩
     refine Ad [] [6, 7] [] (hk 3 Zw (Vp _ ra rb (Nat.lt_succ_self _) (by first | omega | (rw [jra]; exact Ec ha.2.2) | (rw [jrb]; exact Ec hb.2.2)) (by first | omega | (rw [jra]; exact Ec ha.2.2) | (rw [jrb]; exact Ec hb.2.2))) <| hk0) v0 c0 ?_
     refine Af ?_
     refine RK wR [(.int .i64 c), (.int .i64 (Gy ra rb))] ?_
     exact Same.of_eq (by simp only [Ah]; unfold Bn; rw [if_pos c1, jc, jra, jrb])
 ·refine Ag ?_
  refine Da (fun y => ∃ (c : Int), c = orI (Cf a.1 b.1) (Fo a.2.1 b.2.1) ∧ y = ⟨[(4, (.fp (.agg [(.str a.1), (.str a.2.1), (.str a.2.2)]))), (5, (.fp (.agg [(.str b.1), (.str b.2.1), (.str b.2.2)]))), (8, (.int .i64 c))], [], 2⟩) [4, 5, 8] 2 (by omega) ?_ ?_
  ·refine Aa [] [4, 5, 8, 38] ?_
   refine A2 (p := (Cf a.1 b.1) = 0) (by kernel_rfl) (fun c5 => ?_) (fun c5 => ?_)
   ·refine Ar ?_
    refine Aw 0 [] [4, 5, 8] [] (hk 4 Zv (Vg _ a.2.1 b.2.1 (Nat.lt_succ_self _) (by first | omega | (rw [jra]; exact Ec ha.2.2) | (rw [jrb]; exact Ec hb.2.2)) (by first | omega | (rw [jra]; exact Ec ha.2.2) | (rw [jrb]; exact Ec hb.2.2))) <| hk0) v0 c0 ?_
    refine ⟨by kernel_rfl, (Fo a.2.1 b.2.1), ?_, (by kernel_rfl)⟩
    unfold orI
    rw [if_pos (by assumption)]
   ·refine Ag ?_
    refine ⟨by kernel_rfl, (Cf a.1 b.1), ?_, (by kernel_rfl)⟩
    unfold orI
    rw [if_neg (by assumption)]
  ·rintro y4 ⟨c, jc, rfl⟩
   refine Ab ?_
   refine Ad (CS := [(5, ((!(decide (a.2.2 = []))) = true → (!(decide (a.2.2 = []))) = true)), (6, ((!(decide (a.2.2 = []))) = true → (!(decide (a.2.2 = []))) = true)), (7, ((decide (a.2.2 = [])) = false → (!(decide (a.2.2 = []))) = true))]) [48, 49, 50] [4, 5, 8, 51] [] hk0 v0 (by refine cc _ ?_ <| cc _ ?_ <| cc _ ?_ c0 <;> first | omega | (simp; omega) | (simp; done) | (intros; simp_all; omega) | (intros; simp_all; done)) ?_
   refine A3 (q := (decide (a.2.2 = [])) || (decide (b.2.2 = []))) (by kernel_rfl) (fun c6 => ?_) (fun c6 => ?_)
   ·try simp only [Bool.and_eq_true, Bool.or_eq_true, Bool.and_eq_false_iff, Bool.or_eq_false_iff, Bool.not_eq_true', Bool.not_eq_false', decide_eq_true_eq, decide_eq_false_iff_not] at c6
    refine Ad [] [6, 7] [] (hk 8 Pa ((N3 ((a.2.2.length : Int) - (b.2.2.length : Int))).to (Same.of_eq (by rw [Pj]))) <| hk0) v0 (cc 7 (p := (-9223372036854775808 ≤ (a.2.2.length : Int) - (b.2.2.length : Int) ∧ (a.2.2.length : Int) - (b.2.2.length : Int) ≤ 9223372036854775807)) (by first | omega | (simp; omega) | (simp; done) | (intros; simp_all; omega) | (intros; simp_all; done)) <| c0) ?_
    refine Af ?_
    refine RK wR [(.int .i64 c), (.int .i64 (Cg (a.2.2.length : Int) (b.2.2.length : Int)))] ?_
    exact Same.of_eq (by simp only [Ah]; unfold Bn; rw [if_neg c1, if_pos (by assumption), jc, Q48 (by assumption)])
   ·try simp only [Bool.and_eq_true, Bool.or_eq_true, Bool.and_eq_false_iff, Bool.or_eq_false_iff, Bool.not_eq_true', Bool.not_eq_false', decide_eq_true_eq, decide_eq_false_iff_not] at c6
    refine Ag ?_
    refine Ad [] [6, 7] [] (hk 5 Zv (Vg _ a.2.2 b.2.2 (Nat.lt_succ_self _) (by first | omega | (rw [jra]; exact Ec ha.2.2) | (rw [jrb]; exact Ec hb.2.2)) (by first | omega | (rw [jra]; exact Ec ha.2.2) | (rw [jrb]; exact Ec hb.2.2))) <| hk0) v0 c0 ?_
    refine Af ?_
    refine RK wR [(.int .i64 c), (.int .i64 (Fo a.2.2 b.2.2))] ?_
    exact Same.of_eq (by simp only [Ah]; unfold Bn; rw [if_neg c1, if_neg (by simp_all), jc])
set_option maxHeartbeats 1000000 in
set_option maxRecDepth 100000 in
theorem Vq (kind : Int) (a b : List UInt8) (ha : a.length ≤ 4194304) (hb : b.length ≤ 4194304) :
  FnV Tryz.prog 168 [(.int .i64 kind), (.str a), (.str b)] (.tup [(.agg [.str (Au kind a b).1.1, .str (Au kind a b).1.2.1, .str (Au kind a b).1.2.2]), (.agg [.str (Au kind a b).2.1.1, .str (Au kind a b).2.1.2.1, .str (Au kind a b).2.1.2.2]), .int .i64 (Au kind a b).2.2]) := by
 refine A1 [.cell 6 136, .cell 7 136, .tmp 8] Tryz.func168 rfl Tryz.ntmps168 rfl rfl (fun B F hF => ?_)
 refine Aa [] [0, 1, 2, 6, 7] ?_
 refine Ab ?_
 refine Ad (CS := [(4, ((!decide (kind = 1)) = true → (!decide (kind = 1)) = true)), (5, ((!decide (kind = 1)) = true → (!decide (kind = 1)) = true))]) [15, 16] [1, 2, 6, 7, 17] [] hk0 v0 (by refine cc _ ?_ <| cc _ ?_ c0 <;> first | omega | (simp; omega) | (simp; done) | (intros; simp_all; omega) | (intros; simp_all; done)) ?_
 refine A3 (q := (!decide (kind = 1)) && (!decide (kind = 2))) (by kernel_rfl) (fun c1 => ?_) (fun c1 => ?_)
 ·try simp only [Bool.and_eq_true, Bool.or_eq_true, Bool.and_eq_false_iff, Bool.or_eq_false_iff, Bool.not_eq_true', Bool.not_eq_false', decide_eq_true_eq, decide_eq_false_iff_not] at c1
  refine Aa [] [6, 7, 8] ?_
  refine Af ?_
  refine RK wR [(.agg [(.str []), (.str []), (.str [])]), (.agg [(.str []), (.str []), (.str [])]), (.int .i64 1)] ?_
  exact Same.of_eq (by simp only [Ah]; unfold Au; first | (rw [if_pos (by omega)]; done) | (rw [if_neg (by omega), if_pos (by omega)]; done) | (rw [if_neg (by omega), if_neg (by omega), Gc (by omega)]; done))
 ·try simp only [Bool.and_eq_true, Bool.or_eq_true, Bool.and_eq_false_iff, Bool.or_eq_false_iff, Bool.not_eq_true', Bool.not_eq_false', decide_eq_true_eq, decide_eq_false_iff_not] at c1
  refine Ag ?_
  refine Ad [] [2, 6, 7, 9, 10] [(7, 9)] (hk 1 Mt (N1 a (by omega)) <| hk0) v0 c0 ?_
  refine Ab ?_
  refine Aa [] [2, 6, 7, 9, 10, 26] ?_
  refine Cm (p := (Bz a) = 0) (by kernel_rfl) (fun c2 => ?_) (fun c2 => ?_)
  ·refine Aa [] [6, 7, 8] ?_
   refine Af ?_
   refine RK wR [(.agg [(.str []), (.str []), (.str [])]), (.agg [(.str []), (.str []), (.str [])]), (.int .i64 (Bz a))] ?_
   exact Same.of_eq (by simp only [Ah]; unfold Au; first | (rw [if_pos (by omega)]; done) | (rw [if_neg (by omega), if_pos (by omega)]; done) | (rw [if_neg (by omega), if_neg (by omega), Gc (by omega)]; done))
  ·refine Ag ?_
   refine Ad [] [6, 7, 9, 10, 11] [(7, 11)] (hk 1 Mt (N1 b (by omega)) <| hk0) v0 c0 ?_
   refine Cn [] [6, 7, 8] [] hk0 v0 c0 ?_
   refine Af ?_
   refine RK wR [(.agg [(.str ((B7 a).1)), (.str ((B7 a).2.1)), (.str ((B7 a).2.2))]), (.agg [(.str ((B7 b).1)), (.str ((B7 b).2.1)), (.str ((B7 b).2.2))]), (.int .i64 (Bz b))] ?_
   exact Same.of_eq (by simp only [Ah]; unfold Au; first | (rw [if_pos (by omega)]; done) | (rw [if_neg (by omega), if_pos (by omega)]; done) | (rw [if_neg (by omega), if_neg (by omega), Gc (by omega)]; done))
set_option maxHeartbeats 1000000 in
set_option maxRecDepth 100000 in
theorem Q5v (k : Int) (a b : List UInt8) (ha : a.length ≤ 4194304) (hb : b.length ≤ 4194304) :
  FnV Tryz.prog 134 [(.int .i64 k), (.str a), (.str b)] (.tup [.int .i64 (C6 k a b).1, .int .i64 (C6 k a b).2]) := by
 have hbl := Pm k a b
 refine A1 [.tmp 6, .tmp 7] Tryz.func134 rfl Tryz.ntmps134 rfl rfl (fun B F hF => ?_)
 refine Aa [] [0, 1, 2] ?_
 refine Ad [] [0, 8, 9, 10] [(11, 8), (12, 9)] (hk 3 Z4 (Vq k a b (by omega) (by omega)) <| hk0) v0 c0 ?_
 refine Ab ?_
 refine Aa [] [0, 8, 9, 10, 22] ?_
 refine Cm (p := ((Au k a b).2.2) = 0) (by kernel_rfl) (fun c1 => ?_) (fun c1 => ?_)
 ·refine Aa [] [6, 7] ?_
  refine Af ?_
  refine RK wR [(.int .i64 0), (.int .i64 ((Au k a b).2.2))] ?_
  exact Same.of_eq (by simp only [Ah]; unfold C6; rw [if_pos (by assumption)])
 ·refine Ag ?_
  refine Ad [] [11, 12] [] (hk 3 Z3 (Vl k (Au k a b).1 (Au k a b).2.1 ⟨by omega, by omega, by omega⟩ ⟨by omega, by omega, by omega⟩) <| hk0) v0 c0 ?_
  refine Ab ?_
  refine Aa [] [11, 12, 32] ?_
  refine Cm (p := ((Bn k (Au k a b).1 (Au k a b).2.1).1) = 0) (by kernel_rfl) (fun c2 => ?_) (fun c2 => ?_)
  ·refine Aa [] [6, 7] ?_
   refine Af ?_
   refine RK wR [(.int .i64 ((Bn k (Au k a b).1 (Au k a b).2.1).1)), (.int .i64 0)] ?_
   exact Same.of_eq (by simp only [Ah]; unfold C6; rw [if_neg (by simp_all)]; unfold orI; rw [if_neg (by assumption)])
  ·refine Ag ?_
   refine Aa [] [6, 7] ?_
   refine Af ?_
   refine RK wR [(.int .i64 ((Bn k (Au k a b).1 (Au k a b).2.1).2)), (.int .i64 0)] ?_
   exact Same.of_eq (by simp only [Ah]; unfold C6; rw [if_neg (by simp_all)]; unfold orI; rw [if_pos (by simp_all)])
set_option maxHeartbeats 400000 in
set_option maxRecDepth 100000 in
theorem Ha (op bit : Int) (h1 : 0 ≤ op ∧ op ≤ 7) (h2 : bit = 1 ∨ bit = 2 ∨ bit = 4) :
  FnV Tryz.prog 182 [(.int .i64 op), (.int .i64 bit)] (.bool (Al op bit)) := by
 have hq : 0 ≤ Int.tdiv op bit ∧ Int.tdiv op bit ≤ 7 := Q8s h1 h2
 refine A1 [.tmp 4] Tryz.func182 rfl Tryz.ntmps182 rfl rfl (fun B F hF => ?_)
 refine Aa [] [0, 1] ?_
 refine Ad (CS := [(2, (bit ≠ 0 ∧ -9223372036854775808 ≤ Int.tdiv op bit ∧ Int.tdiv op bit ≤ 9223372036854775807)), (3, ((2 : Int) ≠ 0))]) [] [4] [] hk0 v0 (by refine cc _ ?_ <| cc _ ?_ c0 <;> first | omega | (simp; omega) | (simp; done) | (intros; simp_all; omega) | (intros; simp_all; done)) ?_
 refine Af ?_
 refine RK wR [(.bool (decide ((Int.tmod (Int.tdiv op bit) 2) = 1)))] ?_
 exact Same.of_eq (by first | rfl | (simp only [Ah]; simp_all))
set_option maxHeartbeats 1000000 in
set_option maxRecDepth 100000 in
theorem Q5p (k op : Int) (a : List UInt8) (o : Int) (b : List UInt8) (ha : a.length ≤ 4194304) (hb : b.length ≤ 4194304) :
  FnV Tryz.prog 160 [(.int .i64 k), (.int .i64 op), (.str a), (.int .i64 o), (.str b)] (.tup [.bool (A6 k op a o b).1, .int .i64 (A6 k op a o b).2]) := by
 have hbl := Pm k a b
 refine A1 [.tmp 10, .tmp 11] Tryz.func160 rfl Tryz.ntmps160 rfl rfl (fun B F hF => ?_)
 refine Aa [] [0, 1, 2, 3, 4] ?_
 refine Ab ?_
 refine Ad (CS := [(4, ((!decide (k = 1)) = true → (!decide (k = 1)) = true)), (5, ((!decide (k = 1)) = true → (!decide (k = 1)) = true)), (8, ((!((!decide (k = 1)) && (!decide (k = 2)))) = true → (!((!decide (k = 1)) && (!decide (k = 2)))) = true)), (9, (((!decide (k = 1)) && (!decide (k = 2))) = false → (!((!decide (k = 1)) && (!decide (k = 2)))) = true)), (12, ((!(((!decide (k = 1)) && (!decide (k = 2))) || (decide (op < 0)))) = true → (!(((!decide (k = 1)) && (!decide (k = 2))) || (decide (op < 0)))) = true)), (13, ((((!decide (k = 1)) && (!decide (k = 2))) || (decide (op < 0))) = false → (!(((!decide (k = 1)) && (!decide (k = 2))) || (decide (op < 0)))) = true)), (16, ((!((((!decide (k = 1)) && (!decide (k = 2))) || (decide (op < 0))) || (decide (7 < op)))) = true → (!((((!decide (k = 1)) && (!decide (k = 2))) || (decide (op < 0))) || (decide (7 < op)))) = true)), (17, (((((!decide (k = 1)) && (!decide (k = 2))) || (decide (op < 0))) || (decide (7 < op))) = false → (!((((!decide (k = 1)) && (!decide (k = 2))) || (decide (op < 0))) || (decide (7 < op)))) = true)), (20, ((!(((((!decide (k = 1)) && (!decide (k = 2))) || (decide (op < 0))) || (decide (7 < op))) || (decide (o < 0)))) = true → (!(((((!decide (k = 1)) && (!decide (k = 2))) || (decide (op < 0))) || (decide (7 < op))) || (decide (o < 0)))) = true)), (21, ((((((!decide (k = 1)) && (!decide (k = 2))) || (decide (op < 0))) || (decide (7 < op))) || (decide (o < 0))) = false → (!(((((!decide (k = 1)) && (!decide (k = 2))) || (decide (op < 0))) || (decide (7 < op))) || (decide (o < 0)))) = true))]) [20, 21, 24, 25, 28, 29, 32, 33, 36, 37] [0, 1, 2, 3, 4, 38] [] hk0 v0 (by refine cc _ ?_ <| cc _ ?_ <| cc _ ?_ <| cc _ ?_ <| cc _ ?_ <| cc _ ?_ <| cc _ ?_ <| cc _ ?_ <| cc _ ?_ <| cc _ ?_ c0 <;> first | omega | (simp; omega) | (simp; done) | (intros; simp_all; omega) | (intros; simp_all; done)) ?_
 refine A3 (q := (((((!decide (k = 1)) && (!decide (k = 2))) || (decide (op < 0))) || (decide (7 < op))) || (decide (o < 0))) || (decide (7 < o))) (by kernel_rfl) (fun c1 => ?_) (fun c1 => ?_)
 ·try simp only [Bool.and_eq_true, Bool.or_eq_true, Bool.and_eq_false_iff, Bool.or_eq_false_iff, Bool.not_eq_true', Bool.not_eq_false', decide_eq_true_eq, decide_eq_false_iff_not] at c1
  refine Aa [] [10, 11] ?_
  refine Af ?_
  refine RK wR [(.bool false), (.int .i64 1)] ?_
  refine Same.of_eq ?_
  simp only [Ah]
  rw [show A6 k op a o b = (false, 1) from by unfold A6; rw [if_pos (by omega)]]
 ·try simp only [Bool.and_eq_true, Bool.or_eq_true, Bool.and_eq_false_iff, Bool.or_eq_false_iff, Bool.not_eq_true', Bool.not_eq_false', decide_eq_true_eq, decide_eq_false_iff_not] at c1
  refine Ag ?_
  refine Ab ?_
  refine Ad (CS := [(4, ((!(decide (op = 0))) = true → (!(decide (op = 0))) = true)), (5, ((decide (op = 0)) = false → (!(decide (op = 0))) = true))]) [42, 43] [0, 1, 2, 3, 4, 44] [] hk0 v0 (by refine cc _ ?_ <| cc _ ?_ c0 <;> first | omega | (simp; omega) | (simp; done) | (intros; simp_all; omega) | (intros; simp_all; done)) ?_
  refine A3 (q := (decide (op = 0)) || (decide (o = 0))) (by kernel_rfl) (fun c2 => ?_) (fun c2 => ?_)
  ·try simp only [Bool.and_eq_true, Bool.or_eq_true, Bool.and_eq_false_iff, Bool.or_eq_false_iff, Bool.not_eq_true', Bool.not_eq_false', decide_eq_true_eq, decide_eq_false_iff_not] at c2
   refine Aa [] [10, 11] ?_
   refine Af ?_
   refine RK wR [(.bool true), (.int .i64 0)] ?_
   refine Same.of_eq ?_
   simp only [Ah]
   rw [show A6 k op a o b = (true, 0) from by unfold A6; rw [if_neg (by omega), if_pos (by omega)]]
  ·try simp only [Bool.and_eq_true, Bool.or_eq_true, Bool.and_eq_false_iff, Bool.or_eq_false_iff, Bool.not_eq_true', Bool.not_eq_false', decide_eq_true_eq, decide_eq_false_iff_not] at c2
   refine Ag ?_
   refine Ad [] [0, 1, 3, 12, 13, 14] [(11, 12), (12, 13)] (hk 3 Z4 (Vq k a b (by omega) (by omega)) <| hk0) v0 c0 ?_
   refine Ab ?_
   refine Aa [] [0, 1, 3, 12, 13, 14, 54] ?_
   refine Cm (p := ((Au k a b).2.2) = 0) (by kernel_rfl) (fun c3 => ?_) (fun c3 => ?_)
   ·refine Aa [] [10, 11] ?_
    refine Af ?_
    refine RK wR [(.bool false), (.int .i64 ((Au k a b).2.2))] ?_
    refine Same.of_eq ?_
    simp only [Ah]
    rw [show A6 k op a o b = (false, (Au k a b).2.2) from by unfold A6; rw [if_neg (by omega), if_neg (by omega), if_pos (by omega)]]
   ·refine Ag ?_
    refine Ad [] [1, 3, 12, 13, 15, 16] [] (hk 3 Z3 (Vl k (Au k a b).1 (Au k a b).2.1 ⟨by omega, by omega, by omega⟩ ⟨by omega, by omega, by omega⟩) <| hk0) v0 c0 ?_
    refine Da (fun y => ∃ (c : Int), c = Jn (Au k a b).1.2.2 (Au k a b).2.1.2.2 (Bn k (Au k a b).1 (Au k a b).2.1).1 (Bn k (Au k a b).1 (Au k a b).2.1).2 ∧ y = ⟨[(1, (.int .i64 op)), (3, (.int .i64 o)), (15, (.int .i64 c))], [], 2⟩) [1, 3, 15] 2 (by omega) ?_ ?_
    ·refine Ad (CS := [(4, ((decide (((Bn k (Au k a b).1 (Au k a b).2.1).1) = 0)) = true → (decide (((Bn k (Au k a b).1 (Au k a b).2.1).1) = 0)) = true)), (5, ((decide (((Bn k (Au k a b).1 (Au k a b).2.1).1) = 0)) = true → (decide (((Bn k (Au k a b).1 (Au k a b).2.1).1) = 0)) = true)), (6, ((decide (((Bn k (Au k a b).1 (Au k a b).2.1).1) = 0)) = true → (decide (((Bn k (Au k a b).1 (Au k a b).2.1).1) = 0)) = true)), (9, (((decide (((Bn k (Au k a b).1 (Au k a b).2.1).1) = 0)) && (!decide (((Au k a b).1).2.2 = []))) = true → ((decide (((Bn k (Au k a b).1 (Au k a b).2.1).1) = 0)) && (!decide (((Au k a b).1).2.2 = []))) = true)), (10, (((decide (((Bn k (Au k a b).1 (Au k a b).2.1).1) = 0)) && (!decide (((Au k a b).1).2.2 = []))) = true → ((decide (((Bn k (Au k a b).1 (Au k a b).2.1).1) = 0)) && (!decide (((Au k a b).1).2.2 = []))) = true)), (11, (((decide (((Bn k (Au k a b).1 (Au k a b).2.1).1) = 0)) && (!decide (((Au k a b).1).2.2 = []))) = true → ((decide (((Bn k (Au k a b).1 (Au k a b).2.1).1) = 0)) && (!decide (((Au k a b).1).2.2 = []))) = true))]) [66, 67, 68, 71, 72, 73] [1, 3, 15, 16, 74] [] hk0 v0 (by refine cc _ ?_ <| cc _ ?_ <| cc _ ?_ <| cc _ ?_ <| cc _ ?_ <| cc _ ?_ c0 <;> first | omega | (simp; omega) | (simp; done) | (intros; simp_all; omega) | (intros; simp_all; done)) ?_
     refine A3 (q := ((decide (((Bn k (Au k a b).1 (Au k a b).2.1).1) = 0)) && (!decide (((Au k a b).1).2.2 = []))) && (!decide (((Au k a b).2.1).2.2 = []))) (by kernel_rfl) (fun c4 => ?_) (fun c4 => ?_)
     ·try simp only [Bool.and_eq_true, Bool.or_eq_true, Bool.and_eq_false_iff, Bool.or_eq_false_iff, Bool.not_eq_true', Bool.not_eq_false', decide_eq_true_eq, decide_eq_false_iff_not] at c4
      refine Ar ?_
      refine Ep [] [1, 3, 15] ?_
      refine ⟨by kernel_rfl, ((Bn k (Au k a b).1 (Au k a b).2.1).2), ?_, (by kernel_rfl)⟩
      unfold Jn
      rw [if_pos (by simp_all)]
     ·try simp only [Bool.and_eq_true, Bool.or_eq_true, Bool.and_eq_false_iff, Bool.or_eq_false_iff, Bool.not_eq_true', Bool.not_eq_false', decide_eq_true_eq, decide_eq_false_iff_not] at c4
      refine Ag ?_
      refine ⟨by kernel_rfl, ((Bn k (Au k a b).1 (Au k a b).2.1).1), ?_, (by kernel_rfl)⟩
      unfold Jn
      rw [if_neg (fun q => by simp [q.1, q.2.1, q.2.2] at c4)]
    ·rintro y1 ⟨c, jc, rfl⟩
     refine Ab ?_
     refine Aa [] [1, 3, 15, 77] ?_
     refine A2 (p := c < 0) (by kernel_rfl) (fun c5 => ?_) (fun c5 => ?_)
     ·refine Ad (CS := [(4, (!(Al op 4)) = true → (!(Al op 4)) = true), (5, ((Al op 4) = false → (!(Al op 4)) = true))]) [81] [10, 11] [] (hk 1 Hm (Ha op 4 (by omega) (by omega)) <| hkg 4 (!(Al op 4)) Hm (fun cg => Ha o 1 (by omega) (by omega)) <| hk0) v0 (by refine cc _ ?_ <| cc _ ?_ c0 <;> first | omega | (simp; omega) | (simp; done) | (intros; simp_all; omega) | (intros; simp_all; done)) ?_
      refine Af ?_
      refine RK wR [(.bool ((Al op 4) || (Al o 1))), (.int .i64 0)] ?_
      refine Same.of_eq ?_
      simp only [Ah]
      rw [show A6 k op a o b = (Fw (Fv k a b) op o, 0) from by unfold A6; rw [if_neg (by omega), if_neg (by omega), if_neg (by omega)]]
      rw [show Fv k a b = c from jc.symm]
      unfold Fw
      rw [if_pos (by omega), Ox (by omega) (.inr rfl), Ox (by omega) (.inl rfl)]
     ·refine Ag ?_
      refine Ab ?_
      refine Aa [] [1, 3, 85] ?_
      refine A2 (p := 0 < c) (by kernel_rfl) (fun c6 => ?_) (fun c6 => ?_)
      ·refine Ad (CS := [(4, (!(Al op 1)) = true → (!(Al op 1)) = true), (5, ((Al op 1) = false → (!(Al op 1)) = true))]) [89] [10, 11] [] (hk 1 Hm (Ha op 1 (by omega) (by omega)) <| hkg 4 (!(Al op 1)) Hm (fun cg => Ha o 4 (by omega) (by omega)) <| hk0) v0 (by refine cc _ ?_ <| cc _ ?_ c0 <;> first | omega | (simp; omega) | (simp; done) | (intros; simp_all; omega) | (intros; simp_all; done)) ?_
       refine Af ?_
       refine RK wR [(.bool ((Al op 1) || (Al o 4))), (.int .i64 0)] ?_
       refine Same.of_eq ?_
       simp only [Ah]
       rw [show A6 k op a o b = (Fw (Fv k a b) op o, 0) from by unfold A6; rw [if_neg (by omega), if_neg (by omega), if_neg (by omega)]]
       rw [show Fv k a b = c from jc.symm]
       unfold Fw
       rw [if_neg (by omega), if_pos (by omega), Ox (by omega) (.inl rfl), Ox (by omega) (.inr rfl)]
      ·refine Ag ?_
       have qh1 : (((Al op 2) = true → (Al op 2) = true)) := by
        first | omega | (intro hq; simpa using hq) | (simp; done) | (cases Al op 2 <;> cases Al o 2 <;> cases Al op 1 <;> cases Al o 1 <;> cases Al op 4 <;> simp)
       have qh2 : (((!((Al op 2) && (Al o 2))) = true → (!((Al op 2) && (Al o 2))) = true)) := by
        first | omega | (intro hq; simpa using hq) | (simp; done) | (cases Al op 2 <;> cases Al o 2 <;> cases Al op 1 <;> cases Al o 1 <;> cases Al op 4 <;> simp)
       have qh3 : (((!((Al op 2) && (Al o 2))) = true → ((!((Al op 2) && (Al o 2))) = true) ∧ ((Al op 1) = true → ((!((Al op 2) && (Al o 2))) && (Al op 1)) = true))) ∧ ((((Al op 2) && (Al o 2)) = false → (!((Al op 2) && (Al o 2))) = true)) := by
        first | omega | (intro hq; simpa using hq) | (simp; done) | (cases Al op 2 <;> cases Al o 2 <;> cases Al op 1 <;> cases Al o 1 <;> cases Al op 4 <;> simp)
       have qh4 : (((!(((Al op 2) && (Al o 2)) || ((Al op 1) && (Al o 1)))) = true → (!(((Al op 2) && (Al o 2)) || ((Al op 1) && (Al o 1)))) = true)) := by
        first | omega | (intro hq; simpa using hq) | (simp; done) | (cases Al op 2 <;> cases Al o 2 <;> cases Al op 1 <;> cases Al o 1 <;> cases Al op 4 <;> simp)
       have qh5 : (((!(((Al op 2) && (Al o 2)) || ((Al op 1) && (Al o 1)))) = true → ((!(((Al op 2) && (Al o 2)) || ((Al op 1) && (Al o 1)))) = true) ∧ ((Al op 4) = true → ((!(((Al op 2) && (Al o 2)) || ((Al op 1) && (Al o 1)))) && (Al op 4)) = true))) ∧ (((((Al op 2) && (Al o 2)) || ((Al op 1) && (Al o 1))) = false → (!(((Al op 2) && (Al o 2)) || ((Al op 1) && (Al o 1)))) = true)) := by
        first | omega | (intro hq; simpa using hq) | (simp; done) | (cases Al op 2 <;> cases Al o 2 <;> cases Al op 1 <;> cases Al o 1 <;> cases Al op 4 <;> simp)
       refine Ad [95, 99, 101, 102, 104, 107, 109, 110, 112] [10, 11] [] (hk 1 Hm (Ha op 2 (by omega) (by omega)) <| hkg 4 (Al op 2) Hm (fun cg => Ha o 2 (by omega) (by omega)) <| hkg 8 (!((Al op 2) && (Al o 2))) Hm (fun cg => Ha op 1 (by omega) (by omega)) <| hkg 11 ((!((Al op 2) && (Al o 2))) && (Al op 1)) Hm (fun cg => Ha o 1 (by omega) (by omega)) <| hkg 16 (!(((Al op 2) && (Al o 2)) || ((Al op 1) && (Al o 1)))) Hm (fun cg => Ha op 4 (by omega) (by omega)) <| hkg 19 ((!(((Al op 2) && (Al o 2)) || ((Al op 1) && (Al o 1)))) && (Al op 4)) Hm (fun cg => Ha o 4 (by omega) (by omega)) <| hk0) v0 (cc 4 (p := (Al op 2) = true → (Al op 2) = true) (by first | omega | (simp; omega) | (simp; done) | (intros; simp_all; omega) | (intros; simp_all; done)) <| cc 5 (p := ((Al op 2) = true → (Al op 2) = true)) qh1 <| cc 8 (p := (!((Al op 2) && (Al o 2))) = true → (!((Al op 2) && (Al o 2))) = true) (by first | omega | (simp; omega) | (simp; done) | (intros; simp_all; omega) | (intros; simp_all; done)) <| cc 9 (p := ((!((Al op 2) && (Al o 2))) = true → (!((Al op 2) && (Al o 2))) = true)) qh2 <| cc 11 (p := ((!((Al op 2) && (Al o 2))) && (Al op 1)) = true → ((!((Al op 2) && (Al o 2))) && (Al op 1)) = true) (by first | omega | (simp; omega) | (simp; done) | (intros; simp_all; omega) | (intros; simp_all; done)) <| cc 12 (p := ((!((Al op 2) && (Al o 2))) = true → ((!((Al op 2) && (Al o 2))) = true) ∧ ((Al op 1) = true → ((!((Al op 2) && (Al o 2))) && (Al op 1)) = true))) qh3.1 <| cc 13 (p := (((Al op 2) && (Al o 2)) = false → (!((Al op 2) && (Al o 2))) = true)) qh3.2 <| cc 16 (p := (!(((Al op 2) && (Al o 2)) || ((Al op 1) && (Al o 1)))) = true → (!(((Al op 2) && (Al o 2)) || ((Al op 1) && (Al o 1)))) = true) (by first | omega | (simp; omega) | (simp; done) | (intros; simp_all; omega) | (intros; simp_all; done)) <| cc 17 (p := ((!(((Al op 2) && (Al o 2)) || ((Al op 1) && (Al o 1)))) = true → (!(((Al op 2) && (Al o 2)) || ((Al op 1) && (Al o 1)))) = true)) qh4 <| cc 19 (p := ((!(((Al op 2) && (Al o 2)) || ((Al op 1) && (Al o 1)))) && (Al op 4)) = true → ((!(((Al op 2) && (Al o 2)) || ((Al op 1) && (Al o 1)))) && (Al op 4)) = true) (by first | omega | (simp; omega) | (simp; done) | (intros; simp_all; omega) | (intros; simp_all; done)) <| cc 20 (p := ((!(((Al op 2) && (Al o 2)) || ((Al op 1) && (Al o 1)))) = true → ((!(((Al op 2) && (Al o 2)) || ((Al op 1) && (Al o 1)))) = true) ∧ ((Al op 4) = true → ((!(((Al op 2) && (Al o 2)) || ((Al op 1) && (Al o 1)))) && (Al op 4)) = true))) qh5.1 <| cc 21 (p := ((((Al op 2) && (Al o 2)) || ((Al op 1) && (Al o 1))) = false → (!(((Al op 2) && (Al o 2)) || ((Al op 1) && (Al o 1)))) = true)) qh5.2 <| c0) ?_
       refine Af ?_
       refine RK wR [(.bool ((((Al op 2) && (Al o 2)) || ((Al op 1) && (Al o 1))) || ((Al op 4) && (Al o 4)))), (.int .i64 0)] ?_
       refine Same.of_eq ?_
       simp only [Ah]
       rw [show A6 k op a o b = (Fw (Fv k a b) op o, 0) from by unfold A6; rw [if_neg (by omega), if_neg (by omega), if_neg (by omega)]]
       rw [show Fv k a b = c from jc.symm]
       unfold Fw
       rw [if_neg (by omega), if_neg (by omega), Bool.or_assoc, Q8t (by omega) (by omega)]
end Sv
end Go.Proofs.YtlfjokcbkopfeaaGreatDoor
end
section
namespace Go.Proofs.YtlfjokcbkopfeaaGreatDoor
open Go Go.RowKit
namespace Sv
theorem X14 {x : Int} {l : List Int} : x ∈ Lib.compact l ↔ x ∈ l := by
  constructor
  · intro h
    unfold Lib.compact Lib.compactUpTo at h
    obtain ⟨i, hi, rfl⟩ := List.mem_map.1 h
    have hi := (List.mem_filter.1 hi).1
    rw [List.mem_range] at hi
    simp [getElem!_pos, hi]
  · intro h
    obtain ⟨i, hi, rfl⟩ := List.getElem_of_mem h
    unfold Lib.compact Lib.compactUpTo
    induction i with
    | zero => exact List.mem_map.2 ⟨0, List.mem_filter.2 ⟨by simpa using hi, Lib.keeps_lt_one _ 0 (by omega)⟩, by simp [hi]⟩
    | succ i ih =>
      cases hk : Lib.keeps l.toArray (i + 1) with
      | true => exact List.mem_map.2 ⟨i + 1, List.mem_filter.2 ⟨by simpa using hi, hk⟩, by simp [hi]⟩
      | false =>
        have e : l[i + 1] = l[i] := by
          unfold Lib.keeps at hk
          simp at hk
          have hi' : i < l.length := by omega
          simpa [hi, hi'] using hk
        rw [e]
        exact ih (by omega) (List.getElem_mem _)
def Ie (k : Int) (d : DepT) (op : Int) (ev : List UInt8) : Bool := if d.op = 0 then true else if op = 0 then false else (A6 k d.op d.evr op ev).1
theorem Yu {k : Int} {d : DepT} {o : OfferT} : Ip A6 k d o = Ie k d o.op o.evr := by
  unfold Ip Ie
  by_cases h : d.op = 0
  · rw [if_pos (.inl h), if_pos h, decide_eq_true h]
  · by_cases q : o.op = 0
    · rw [if_pos (.inr q), if_neg h, if_pos q, decide_eq_false h]
    · rw [if_neg (by simp [h, q]), if_neg h, if_neg q]
def H3 (k : Int) (p : PkgT) (d : DepT) : Bool := decide (p.name = d.name) && Ie k d 2 p.evr
theorem Vr {i : Nat} {p : PkgT} {q : List UInt8 × OfferT} (h : q ∈ Gp i p) : q.2.id = (i : Int) := by
  unfold Gp Dx Ea at h
  rw [List.take_length, List.take_length] at h
  rcases List.mem_append.1 h with h | h
  · rcases List.mem_cons.1 h with rfl | h
    · rfl
    · obtain ⟨d, _, rfl⟩ := List.mem_map.1 h; rfl
  · obtain ⟨f, _, rfl⟩ := List.mem_map.1 h; rfl
theorem Q7g {st : PoolT} {d : DepT} {own : Bool} {x : Int} : x ∈ H1 A6 st d own ↔ ∃ i, i < st.all.length ∧ x = (i : Int) ∧ ∃ q ∈ Gp i (nth st.all i).1, q.1 = d.name ∧ Gr A6 st d own q.2 = true := by
  unfold H1
  rw [X14]
  unfold Dd
  rw [List.take_length]
  constructor
  · intro h
    obtain ⟨o, ho, rfl⟩ := List.mem_map.1 h
    obtain ⟨h1, h2⟩ := List.mem_filter.1 ho
    unfold B3 at h1
    obtain ⟨q, hq, rfl⟩ := List.mem_map.1 h1
    obtain ⟨h3, h4⟩ := List.mem_filter.1 hq
    unfold Bf at h3
    obtain ⟨i, hi, h5⟩ := List.mem_flatMap.1 h3
    exact ⟨i, by simpa using hi, Vr h5, q, h5, by simpa using h4, h2⟩
  · rintro ⟨i, hi, rfl, q, hq, h1, h2⟩
    refine List.mem_map.2 ⟨q.2, List.mem_filter.2 ⟨?_, h2⟩, Vr hq⟩
    unfold B3
    refine List.mem_map.2 ⟨q, List.mem_filter.2 ⟨?_, by simp [h1]⟩, rfl⟩
    unfold Bf
    exact List.mem_flatMap.2 ⟨i, by simpa using hi, hq⟩
theorem Q6i {st : PoolT} {d : DepT} {x : Int} (hx : 0 ≤ x ∧ x < st.all.length) : x ∈ H1 A6 st d true ↔ H3 st.kind (nth st.all x.toNat).1 d = true := by
  rw [Q7g]
  constructor
  · rintro ⟨i, hi, rfl, q, hq, h1, h2⟩
    unfold Gp Dx Ea at hq
    rw [List.take_length, List.take_length] at hq
    have ho : q.2.own = true := by unfold Gr at h2; cases k : q.2.own <;> simp_all
    have hf : Ip A6 st.kind d q.2 = true := by unfold Gr at h2; simp only [Bool.and_eq_true] at h2; exact h2.2
    rcases List.mem_append.1 hq with hq | hq
    · rcases List.mem_cons.1 hq with rfl | hq
      · rw [Yu] at hf
        unfold H3
        rw [show ((i : Nat) : Int).toNat = i from rfl, decide_eq_true h1]
        exact hf
      · obtain ⟨e, _, rfl⟩ := List.mem_map.1 hq; cases ho
    · obtain ⟨f, _, rfl⟩ := List.mem_map.1 hq; cases ho
  · intro h
    unfold H3 at h
    simp only [Bool.and_eq_true, decide_eq_true_eq] at h
    refine ⟨x.toNat, by omega, by omega, ((nth st.all x.toNat).1.name, ⟨(x.toNat : Nat), true, 2, (nth st.all x.toNat).1.evr⟩), ?_, h.1, ?_⟩
    · unfold Gp Dx Ea
      exact List.mem_append_left _ List.mem_cons_self
    · unfold Gr
      rw [Yu]
      simpa using h.2
def Il (st : PoolT) (id o : Int) : Bool := (nth st.all o.toNat).1.obsoletes.any fun d => H3 st.kind (nth st.all id.toNat).1 d
def Lq (st : PoolT) : Prop := ∀ q ∈ st.all, ∀ d ∈ q.1.obsoletes, C3 d = 0 ∧ d.kind = 1
theorem Q1k {α : Type} {f g : α → Bool} : ∀ {l : List α}, (∀ x ∈ l, f x = g x) → l.any f = l.any g
  | [], _ => rfl
  | x :: l, h => by rw [List.any_cons, List.any_cons, h x (by simp), Q1k fun y hy => h y (by simp [hy])]
theorem Q60 {st : PoolT} (h : Lq st) {id o : Int} (hi : 0 ≤ id ∧ id < st.all.length) (ho : 0 ≤ o ∧ o < st.all.length) : Ee A6 st id o = Il st id o := by
  unfold Ee Il
  refine Q1k fun d hd => ?_
  have hm : nth st.all o.toNat ∈ st.all := by rw [Es (by omega)]; exact List.getElem_mem _
  obtain ⟨h1, h2⟩ := h _ hm d hd
  have e : (Ed A6 st d).1 = H1 A6 st d true := by unfold Ed G9; rw [if_pos h1, h2]; rfl
  rw [e, Bool.eq_iff_iff, decide_eq_true_eq, Q6i hi]
theorem Q58 {k : Int} {l : List RepoT} (h : ∀ q ∈ (Ao k l).1.all, El q.1 = true) : Lq (Ao k l).1 := by
  intro q hq d hd
  have hl := h q hq
  unfold El at hl
  simp only [Bool.and_eq_true] at hl
  have hl := hl.1.1.2
  unfold Di at hl
  simp only [Bool.and_eq_true, List.all_eq_true] at hl
  have hq := hl.2 d hd
  unfold Fi at hq
  simp at hq
  exact ⟨hq.1, hq.2⟩
theorem Y1 {f g : Int → Bool} : ∀ {l : List Int}, (∀ x ∈ l, f x = g x) → Cj f l = Cj g l
  | [], _ => rfl
  | x :: l, h => by unfold Cj; rw [h x (by simp), Y1 fun y hy => h y (by simp [hy])]
theorem Q9a {f g : Int → Bool} {l : List Int} (h : ∀ x ∈ l, f x = g x) : Bi f l = Bi g l := by unfold Bi; rw [Y1 h]
theorem Y2 {p : Int → Bool} {l : List Int} {i : Nat} (h : i < l.length) (h1 : ∀ j, j < i → p (nth l j) = false) (h2 : p (nth l i) = true) : Bi p l = nth l i := by
  unfold Bi; rw [Js h h1 h2, if_pos (by omega)]; rfl
theorem Yy {p : Int → Bool} {l : List Int} (h : ∀ j, j < l.length → p (nth l j) = false) : Bi p l = -1 := by
  unfold Bi; rw [Jr h]; rfl
theorem Yz {p : Int → Bool} {l : List Int} (h : ∀ x ∈ l, 0 ≤ x) (k : Bi p l < 0) : Bi p l = -1 := by
  unfold Bi at k ⊢
  have := Ow p l
  split at k
  · rename_i q
    have hm : nth l (Cj p l).toNat ∈ l := by rw [Es (by omega)]; exact List.getElem_mem _
    have := h _ hm; omega
  · rename_i q; rw [if_neg q]
def Dv (st : PoolT) (c g : List Int) (i : Nat) : List Cd := ((List.range i).filter fun (k : Nat) => decide ((k : Int) ∈ c) || decide ((k : Int) ∈ g)).map fun (k : Nat) => B9 A6 st c g (k : Int)
theorem Q3q (st : PoolT) (c g : List Int) (i : Nat) : (Dv st c g i).length ≤ i := by
  unfold Dv
  rw [List.length_map]
  exact Nat.le_trans (List.length_filter_le _ _) (by simp)
theorem Un {st : PoolT} {c g : List Int} {i : Nat} (h : (i : Int) ∈ c ∨ (i : Int) ∈ g) : Dv st c g (i + 1) = Dv st c g i ++ [B9 A6 st c g (i : Int)] := by
  unfold Dv
  rw [List.range_succ, List.filter_append, List.map_append]
  rcases h with h | h <;> simp [h]
theorem Q3p {st : PoolT} {c g : List Int} {i : Nat} (h : ¬ (i : Int) ∈ c) (k : ¬ (i : Int) ∈ g) : Dv st c g (i + 1) = Dv st c g i := by
  unfold Dv
  rw [List.range_succ, List.filter_append, List.map_append]
  simp [h, k]
theorem Q44 {l : List Nat} (h : l.Pairwise (· < ·)) : Cu (l.map fun (k : Nat) => (k : Int)) := by
  induction l with
  | nil => trivial
  | cons a l ih =>
    rw [List.pairwise_cons] at h
    refine ⟨fun y hy => ?_, ih h.2⟩
    obtain ⟨z, hz, rfl⟩ := List.mem_map.1 hy
    have := h.1 z hz
    show (a : Int) < (z : Int)
    omega
theorem Q3r {st : PoolT} {a b : List Int} (ha : ∀ x ∈ a, 0 ≤ x ∧ x < st.all.length) (hb : ∀ x ∈ b, 0 ≤ x ∧ x < st.all.length) : Dv st (Ac b a) (Ac a b) st.all.length = Ez (B9 A6 st) a b := by
  unfold Dv Ez
  have e : A5 (Ac b a) (Ac a b) = ((List.range st.all.length).filter fun (k : Nat) => decide ((k : Int) ∈ Ac b a) || decide ((k : Int) ∈ Ac a b)).map fun (k : Nat) => (k : Int) := by
    refine Ny (P8 _ _) (Q44 (List.Pairwise.filter _ List.pairwise_lt_range)) fun x => ?_
    rw [unionZ_mem, List.mem_map]
    constructor
    · intro h
      have hx : 0 ≤ x ∧ x < st.all.length := by
        rcases h with h | h
        · exact hb x (minusZ_mem.1 h).1
        · exact ha x (minusZ_mem.1 h).1
      have ex : ((x.toNat : Nat) : Int) = x := by omega
      refine ⟨x.toNat, List.mem_filter.2 ⟨List.mem_range.2 (by omega), ?_⟩, ex⟩
      rw [ex]
      rcases h with h | h <;> simp [h]
    · rintro ⟨k, hk, rfl⟩
      have := (List.mem_filter.1 hk).2
      simpa using this
  rw [e, List.map_map]; rfl
end Sv
end Go.Proofs.YtlfjokcbkopfeaaGreatDoor
end
section
namespace Go.Proofs.YtlfjokcbkopfeaaGreatDoor
open Go Go.RowKit
namespace Sv
attribute [local irreducible] SW SO Bg
theorem Lb : Am Tryz.prog 63 := Av Tryz.func63 (by kernel_rfl) rfl
theorem Q92 : Am Tryz.prog 65 := Av Tryz.func65 (by kernel_rfl) rfl
theorem X1f : Am Tryz.prog 123 := Av Tryz.func123 (by kernel_rfl) rfl
theorem Q93 : Am Tryz.prog 64 := Av Tryz.func64 (by kernel_rfl) rfl
theorem Zx : Am Tryz.prog 20 := Av Tryz.func20 (by kernel_rfl) rfl
theorem X2r {st : PoolT} {pl : List (Int × Int)} (h : Hs st pl) {i : Nat} (hi : i < st.all.length) : nth (nth st.repos (nth pl i).1.toNat).pkgs (nth pl i).2.toNat = (nth st.all i).1 := (h.2 i hi).2.2.2.2.1
theorem Q75 {n : Nat} {l : List Int} (h : ∀ j, j < l.length → 0 ≤ nth l j ∧ nth l j < n) : (l.all fun x => decide (0 ≤ x) && decide (x < n)) = true := by
 rw [List.all_eq_true]
 intro x hx
 obtain ⟨j, hj, rfl⟩ := List.getElem_of_mem hx
 have := h j hj
 rw [Es hj] at this
 simp [this.1, this.2]
theorem Q76 {n : Nat} {l : List Int} {i : Nat} (hi : i < l.length) (h : ¬ (0 ≤ nth l i ∧ nth l i < n)) : (l.all fun x => decide (0 ≤ x) && decide (x < n)) = false := by
 rw [List.all_eq_false]
 refine ⟨nth l i, by rw [Es hi]; exact List.getElem_mem hi, ?_⟩
 simp only [Bool.and_eq_true, decide_eq_true_eq]; exact h
set_option maxHeartbeats 1000000 in
set_option maxRecDepth 100000 in
theorem Kp (st : PoolT) (pl : List (Int × Int)) (h : Hs st pl) (i : Nat) (hi : i < st.all.length) :
  FnV Tryz.prog 63 [(.fp (Dh st pl)), (.int .i64 ((i : Int)))] (Aq ((nth st.all i).1)) := by
 have hp := h.2 i hi
 have hl := h.1
 refine A1 [.cell 4 38] Tryz.func63 rfl Tryz.ntmps63 rfl rfl (fun B F hF => ?_)
 refine Aa [] [0, 1, 4] ?_
 refine Cn (CS := [(9, (0 ≤ (i : Int) ∧ i < pl.length)), (10, (0 ≤ (0 : Int) ∧ 0 < 2)), (12, (0 ≤ (nth pl i).1 ∧ ((nth pl i).1).toNat < st.repos.length)), (20, (0 ≤ (i : Int) ∧ i < pl.length)), (21, (0 ≤ (1 : Int) ∧ 1 < 2)), (23, (0 ≤ (nth pl i).2 ∧ ((nth pl i).2).toNat < ((nth st.repos (((nth pl i).1).toNat)).pkgs).length))]) [] [4] [] hk0 v0 (by refine cc _ ?_ <| cc _ ?_ <| cc _ ?_ <| cc _ ?_ <| cc _ ?_ <| cc _ ?_ c0 <;> first | omega | (simp; omega) | (simp; done) | (intros; simp_all; omega) | (intros; simp_all; done)) ?_
 refine Af ?_
 refine RK wR [(Aq (nth ((nth st.repos (((nth pl i).1).toNat)).pkgs) (((nth pl i).2).toNat)))] ?_
 exact Same.of_eq (by simp only [Ah]; rw [← X2r h hi])
set_option maxHeartbeats 400000 in
set_option maxRecDepth 100000 in
theorem Q5s (st : PoolT) (pl : List (Int × Int)) (id : Int) :
  FnV Tryz.prog 65 [(.fp (Dh st pl)), (.int .i64 id)] (.bool (decide (0 ≤ id) && decide (id < (pl.length : Int)))) := by
 refine A1 [.tmp 4] Tryz.func65 rfl Tryz.ntmps65 rfl rfl (fun B F hF => ?_)
 refine Aa [] [0, 1] ?_
 obtain ⟨b1, hb1⟩ : ∃ b, b = (decide (0 ≤ id)) := ⟨_, rfl⟩
 refine Ad (CS := [(5, (b1 = true → b1 = true)), (6, (b1 = true → b1 = true)), (7, (b1 = true → b1 = true)), (8, (b1 = true → b1 = true)), (9, (b1 = true → b1 = true ∧ b1 = true)), (10, (b1 = true → b1 = true))]) [8, 9, 10, 11, 12, 13, 14] [4] [] hk0 (vk 3 7 (a := .bool (decide (0 ≤ id))) (b := .bool b1) (Imp.of_eq (by rw [hb1])) <| v0) (by refine cc _ ?_ <| cc _ ?_ <| cc _ ?_ <| cc _ ?_ <| cc _ ?_ <| cc _ ?_ c0 <;> first | omega | (simp; omega) | (simp; done) | (intros; simp_all; omega) | (intros; simp_all; done)) ?_
 refine Af ?_
 refine RK wR [(.bool (b1 && (decide (id < (pl.length : Int)))))] ?_
 subst hb1
 exact Same.of_eq (by first | rfl | (simp only [Ah]; simp_all))
set_option maxHeartbeats 400000 in
set_option maxRecDepth 100000 in
theorem Vo (st : PoolT) (pl : List (Int × Int)) (l : List Int) (hl : l.length ≤ 4611686018427) :
  FnV Tryz.prog 20 [(.fp (Dh st pl)), (Ap l)] (.bool (l.all fun x => decide (0 ≤ x) && decide (x < (pl.length : Int)))) := by
 refine A1 [.tmp 4] Tryz.func20 rfl Tryz.ntmps20 rfl rfl (fun B F hF => ?_)
 refine Aa [] [0, 1] ?_
 refine Ab ?_
 refine Aa [] [0, 1, 5] ?_
 refine A0 ?_
 refine Bq (fun g y => ∃ (i : Nat), i ≤ l.length ∧ (∀ j, j < i → 0 ≤ nth l j ∧ nth l j < (pl.length : Int)) ∧ y = ⟨[(0, (.fp (Dh st pl))), (1, (Ap l)), (5, (.int .i64 ((i : Int))))], [], 0⟩ ∧ g = l.length - i) [0, 1, 5] 0 _ (by omega) ⟨0, (by omega), (by exact fun j hj => by omega), (by kernel_rfl), rfl⟩ ?_
 rintro g1 y1 ⟨i, f1_1, f1_2, rfl, rfl⟩
 refine Ab ?_
 refine Aa [] [0, 1, 5, 10] ?_
 refine A2 (p := (i : Int) < (l.length : Int)) (by kernel_rfl) (fun c1 => ?_) (fun c1 => ?_)
 ·refine Ag ?_
  refine Ab ?_
  refine A0 ?_
  refine Ad [] [0, 1, 5, 6] [] (hk 5 Q92 (Q5s st pl (nth l i)) <| hk0) v0 (cc 3 (p := (0 ≤ (i : Int) ∧ i < l.length)) (by first | omega | (simp; omega) | (simp; done) | (intros; simp_all; omega) | (intros; simp_all; done)) <| c0) ?_
  refine Aa [] [0, 1, 5, 20] ?_
  refine A3 (q := !(decide (0 ≤ (nth l i)) && decide ((nth l i) < (pl.length : Int)))) (by kernel_rfl) (fun c2 => ?_) (fun c2 => ?_)
  ·try simp only [Bool.and_eq_true, Bool.or_eq_true, Bool.and_eq_false_iff, Bool.or_eq_false_iff, Bool.not_eq_true', Bool.not_eq_false', decide_eq_true_eq, decide_eq_false_iff_not] at c2
   refine Aa [] [4] ?_
   refine Af ?_
   refine RK wR [(.bool false)] ?_
   exact Same.of_eq (by simp only [Ah]; rw [Q76 (i := i) (by omega) (by intro q; simp [q.1, q.2] at c2)])
  ·try simp only [Bool.and_eq_true, Bool.or_eq_true, Bool.and_eq_false_iff, Bool.or_eq_false_iff, Bool.not_eq_true', Bool.not_eq_false', decide_eq_true_eq, decide_eq_false_iff_not] at c2
   refine Ag ?_
   refine Ar ?_
   refine Aw 0 [] [0, 1, 5] [] hk0 v0 (cc 1 (p := (-9223372036854775808 ≤ (i : Int) + 1 ∧ (i : Int) + 1 ≤ 9223372036854775807)) (by first | omega | (simp; omega) | (simp; done) | (intros; simp_all; omega) | (intros; simp_all; done)) <| c0) ?_
   refine ⟨by kernel_rfl, _, ?_, i + 1, ?_, ?_, (by kernel_rfl), rfl⟩
   ·omega
   ·omega
   ·intro j hj
    by_cases h : j = i
    ·subst h; simp_all
    ·exact f1_2 j (by omega)
 ·refine Bj ?_
  refine Aa [] [4] ?_
  refine Af ?_
  refine RK wR [(.bool true)] ?_
  exact Same.of_eq (by simp only [Ah]; rw [Q75 fun j hj => f1_2 j (by omega)])
set_option maxHeartbeats 400000 in
set_option maxRecDepth 100000 in
theorem Q5l (k : Int) (d : DepT) (op : Int) (ev : List UInt8) (hd : d.evr.length ≤ 4194304) (he : ev.length ≤ 4194304) :
  FnV Tryz.prog 123 [(.int .i64 k), (.agg [(.int .i64 d.kind), (.str d.name), (.int .i64 d.op), (.str d.evr), (.row 5 d.args.length (depAt d.args))]), (.int .i64 op), (.str ev)] (.bool (Ie k d op ev)) := by
 refine A1 [.tmp 8] Tryz.func123 rfl Tryz.ntmps123 rfl rfl (fun B F hF => ?_)
 refine Ad [] [0, 2, 3, 5] [(1, 5)] hk0 v0 c0 ?_
 refine Ab ?_
 refine Aa [] [0, 2, 3, 5, 13] ?_
 refine A2 (p := d.op = 0) (by kernel_rfl) (fun c1 => ?_) (fun c1 => ?_)
 ·refine Aa [] [8] ?_
  refine Af ?_
  refine RK wR [(.bool true)] ?_
  exact Same.of_eq (by simp only [Ah]; unfold Ie; rw [if_pos (by assumption)])
 ·refine Ag ?_
  refine Ab ?_
  refine Aa [] [0, 2, 3, 5, 15] ?_
  refine A2 (p := op = 0) (by kernel_rfl) (fun c2 => ?_) (fun c2 => ?_)
  ·refine Aa [] [8] ?_
   refine Af ?_
   refine RK wR [(.bool false)] ?_
   exact Same.of_eq (by simp only [Ah]; unfold Ie; rw [if_neg (by assumption), if_pos (by assumption)])
  ·refine Ag ?_
   refine Ad [] [9] [] (hk 7 X0r (Q5p k d.op d.evr op ev (by omega) (by omega)) <| hk0) v0 c0 ?_
   refine Aa [] [8] ?_
   refine Af ?_
   refine RK wR [(.bool ((A6 k d.op d.evr op ev).1))] ?_
   exact Same.of_eq (by simp only [Ah]; unfold Ie; rw [if_neg (by assumption), if_neg (by assumption)])
set_option maxHeartbeats 400000 in
set_option maxRecDepth 100000 in
theorem Q5r (k : Int) (p : PkgT) (d : DepT) (hd : d.evr.length ≤ 4194304) (he : p.evr.length ≤ 4194304) :
  FnV Tryz.prog 64 [(.int .i64 k), (Aq p), (.agg [(.int .i64 d.kind), (.str d.name), (.int .i64 d.op), (.str d.evr), (.row 5 d.args.length (depAt d.args))])] (.bool (H3 k p d)) := by
 refine A1 [.tmp 6] Tryz.func64 rfl Tryz.ntmps64 rfl rfl (fun B F hF => ?_)
 refine Ad [] [0, 4, 5] [(1, 4), (2, 5)] hk0 v0 c0 ?_
 obtain ⟨b1, hb1⟩ : ∃ b, b = (decide (p.name = d.name)) := ⟨_, rfl⟩
 refine Ad (CS := [(9, (b1 = true → b1 = true)), (10, b1 = true → b1 = true ∧ b1 = true ∧ b1 = true), (11, (b1 = true → b1 = true))]) [13, 14, 15, 16] [6] [] (hkg 10 b1 X1f (fun cg => Q5l k d 2 p.evr hd he) <| hk0) (vk 6 12 (a := .bool (decide (p.name = d.name))) (b := .bool b1) (Imp.of_eq (by rw [hb1])) <| v0) (by refine cc _ ?_ <| cc _ ?_ <| cc _ ?_ c0 <;> first | omega | (simp; omega) | (simp; done) | (intros; simp_all; omega) | (intros; simp_all; done)) ?_
 refine Af ?_
 refine RK wR [(.bool (b1 && (Ie k d 2 p.evr)))] ?_
 subst hb1
 exact Same.of_eq (by simp only [Ah]; rfl)
end Sv
end Go.Proofs.YtlfjokcbkopfeaaGreatDoor
end
section
namespace Go.Proofs.YtlfjokcbkopfeaaGreatDoor
open Go Go.RowKit
namespace Sv
attribute [local irreducible] SW SO Bg
theorem Z9 : Am Tryz.prog 133 := Av Tryz.func133 (by kernel_rfl) rfl
theorem X08 : Am Tryz.prog 135 := Av Tryz.func135 (by kernel_rfl) rfl
theorem Q9s : Am Tryz.prog 85 := Av Tryz.func85 (by kernel_rfl) rfl
theorem Q9r : Am Tryz.prog 86 := Av Tryz.func86 (by kernel_rfl) rfl
theorem X0g : Am Tryz.prog 31 := Av Tryz.func31 (by kernel_rfl) rfl
theorem X0h : Am Tryz.prog 28 := Av Tryz.func28 (by kernel_rfl) rfl
theorem X0f : Am Tryz.prog 32 := Av Tryz.func32 (by kernel_rfl) rfl
theorem X0e : Am Tryz.prog 33 := Av Tryz.func33 (by kernel_rfl) rfl
theorem Q9h {d : DepT} : d.evr.length ≤ d.size := by cases d; simp only [DepT.size, DepT.evr]; omega
theorem Q52 {x : Int} {s : List Int} (h : Cu s) : Cv x s = A5 s [x] := by
 have : Cv x (B5 s) = B5 (s ++ [x]) := N7
 rw [Qr h] at this; exact this
theorem X15 {k : Int} (h : Dt k = true) : Ff k = false := by
 unfold Dt at h
 simp only [Bool.or_eq_true, decide_eq_true_eq] at h
 rcases h with rfl | rfl | rfl | rfl <;> rfl
theorem Q6y {st : PoolT} {id : Nat} {o : Int} {k : Nat} (hk : k < (nth st.all o.toNat).1.obsoletes.length) (h : H3 st.kind (nth st.all id).1 (nth (nth st.all o.toNat).1.obsoletes k) = true) : Il st (id : Int) o = true := by
 unfold Il
 rw [List.any_eq_true]
 exact ⟨_, by rw [Es hk]; exact List.getElem_mem hk, h⟩
theorem Q6z {st : PoolT} {id : Nat} {o : Int} {k : Nat} (hk : (nth st.all o.toNat).1.obsoletes.length ≤ k) (h : ∀ j, j < k → H3 st.kind (nth st.all id).1 (nth (nth st.all o.toNat).1.obsoletes j) = false) : Il st (id : Int) o = false := by
 unfold Il
 rw [List.any_eq_false]
 intro d hd
 obtain ⟨j, hj, rfl⟩ := List.getElem_of_mem hd
 have := h j (by omega)
 rw [Es hj] at this
 rw [show ((id : Nat) : Int).toNat = id from rfl, this]; simp
set_option maxHeartbeats 1000000 in
set_option maxRecDepth 100000 in
theorem Vn (st : PoolT) (pl : List (Int × Int)) (h : Hs st pl) (hi : IdxOk st) (l : List Int) (id : Nat) (hl : l.length ≤ 4194304) (hr : ∀ x ∈ l, 0 ≤ x ∧ x < st.all.length) (hid : id < st.all.length) :
  FnV Tryz.prog 133 [(.fp (Dh st pl)), (Ap l), (.int .i64 ((id : Int)))] (.int .i64 (Bi (Bu st (id : Int)) l)) := by
 refine A1 [.tmp 6] Tryz.func133 rfl Tryz.ntmps133 rfl rfl (fun B F hF => ?_)
 refine Aa [] [0, 1, 2] ?_
 refine Ab ?_
 refine Aa [] [0, 1, 2, 7] ?_
 refine A0 ?_
 refine Bq (fun g y => ∃ (i : Nat), i ≤ l.length ∧ (∀ j, j < i → Bu st (id : Int) (nth l j) = false) ∧ y = ⟨[(0, (.fp (Dh st pl))), (1, (Ap l)), (2, (.int .i64 ((id : Int)))), (7, (.int .i64 ((i : Int))))], [], 0⟩ ∧ g = l.length - i) [0, 1, 2, 7] 0 _ (by omega) ⟨0, (by omega), (by exact fun j hj => by omega), (by kernel_rfl), rfl⟩ ?_
 rintro g1 y1 ⟨i, f1_1, f1_2, rfl, rfl⟩
 refine Ab ?_
 refine Aa [] [0, 1, 2, 7, 11] ?_
 refine A2 (p := (i : Int) < (l.length : Int)) (by kernel_rfl) (fun c1 => ?_) (fun c1 => ?_)
 ·have hli := hr (nth l i) (Ma (by omega))
  refine Ag ?_
  refine Ab ?_
  refine A0 ?_
  refine Ad [] [0, 1, 2, 7, 25] [] (hk 5 (al := [(.fp (Dh st pl)), (.int .i64 (nth l i))]) Lb ((Kp st pl h (nth l i).toNat (by omega)).of_args (ImpL.cons Imp.refl (ImpL.cons (Imp.of_eq (congrArg (AV.int .i64) (Mi hli.1))) ImpL.nil))) <| hk 9 Lb (Kp st pl h id hid) <| hk0) v0 (cc 3 (p := (0 ≤ (i : Int) ∧ i < l.length)) (by first | omega | (simp; omega) | (simp; done) | (intros; simp_all; omega) | (intros; simp_all; done)) <| c0) ?_
  refine A2 (p := ((nth st.all ((nth l i).toNat)).1).name = ((nth st.all id).1).name) (by kernel_rfl) (fun c2 => ?_) (fun c2 => ?_)
  ·refine Ad [] [6] [] hk0 v0 (cc 2 (p := (0 ≤ (i : Int) ∧ i < l.length)) (by first | omega | (simp; omega) | (simp; done) | (intros; simp_all; omega) | (intros; simp_all; done)) <| c0) ?_
   refine Af ?_
   refine RK wR [(.int .i64 (nth l i))] ?_
   exact Same.of_eq (by simp only [Ah]; rw [Y2 (i := i) (by omega) f1_2 (decide_eq_true c2)])
  ·refine Ag ?_
   refine Ar ?_
   refine Aw 0 [] [0, 1, 2, 7] [] hk0 v0 (cc 1 (p := (-9223372036854775808 ≤ (i : Int) + 1 ∧ (i : Int) + 1 ≤ 9223372036854775807)) (by first | omega | (simp; omega) | (simp; done) | (intros; simp_all; omega) | (intros; simp_all; done)) <| c0) ?_
   refine ⟨by kernel_rfl, _, ?_, i + 1, ?_, ?_, (by kernel_rfl), rfl⟩
   ·omega
   ·omega
   ·intro j hj
    by_cases q : j = i
    ·subst q; exact decide_eq_false c2
    ·exact f1_2 j (by omega)
 ·refine Bj ?_
  refine Aa [] [6] ?_
  refine Af ?_
  refine RK wR [(.int .i64 (-1))] ?_
  exact Same.of_eq (by simp only [Ah]; rw [Yy fun j hj => f1_2 j (by omega)])
set_option maxHeartbeats 1000000 in
set_option maxRecDepth 100000 in
theorem Q5o (st : PoolT) (pl : List (Int × Int)) (h : Hs st pl) (hi : IdxOk st) (ho : Lq st) (l : List Int) (id : Nat) (hl : l.length ≤ 4194304) (hr : ∀ x ∈ l, 0 ≤ x ∧ x < st.all.length) (hid : id < st.all.length) :
  FnV Tryz.prog 135 [(.fp (Dh st pl)), (Ap l), (.int .i64 ((id : Int)))] (.int .i64 (Bi (Ee A6 st (id : Int)) l)) := by
 have hpz := Je (hi.2 id hid)
 have hcg : Bi (Ee A6 st (id : Int)) l = Bi (Il st (id : Int)) l := Q9a fun x hx => Q60 ho (by omega) (hr x hx)
 refine A1 [.tmp 6] Tryz.func135 rfl Tryz.ntmps135 rfl rfl (fun B F hF => ?_)
 refine Aa [] [0, 1, 2] ?_
 refine Ab ?_
 refine Aa [] [0, 1, 2, 7] ?_
 refine A0 ?_
 refine Bq (fun g y => ∃ (i : Nat), i ≤ l.length ∧ (∀ j, j < i → Il st (id : Int) (nth l j) = false) ∧ y = ⟨[(0, (.fp (Dh st pl))), (1, (Ap l)), (2, (.int .i64 ((id : Int)))), (7, (.int .i64 ((i : Int))))], [], 0⟩ ∧ g = l.length - i) [0, 1, 2, 7] 0 _ (by omega) ⟨0, (by omega), (by exact fun j hj => by omega), (by kernel_rfl), rfl⟩ ?_
 rintro g1 y1 ⟨i, f1_1, f1_2, rfl, rfl⟩
 refine Ab ?_
 refine Aa [] [0, 1, 2, 7, 14] ?_
 refine A2 (p := (i : Int) < (l.length : Int)) (by kernel_rfl) (fun c1 => ?_) (fun c1 => ?_)
 ·have hli := hr (nth l i) (Ma (by omega))
  have hlz := Je (hi.2 (nth l i).toNat (by omega))
  refine Ag ?_
  refine Ab ?_
  refine A0 ?_
  refine Ad [] [0, 1, 2, 7, 8] [] (hk 5 (al := [(.fp (Dh st pl)), (.int .i64 (nth l i))]) Lb ((Kp st pl h (nth l i).toNat (by omega)).of_args (ImpL.cons Imp.refl (ImpL.cons (Imp.of_eq (congrArg (AV.int .i64) (Mi hli.1))) ImpL.nil))) <| hk0) v0 (cc 3 (p := (0 ≤ (i : Int) ∧ i < l.length)) (by first | omega | (simp; omega) | (simp; done) | (intros; simp_all; omega) | (intros; simp_all; done)) <| c0) ?_
  refine Aa [] [0, 1, 2, 7, 8, 9] ?_
  refine A0 ?_
  refine Bq (fun g y => ∃ (k : Nat), k ≤ (nth st.all (nth l i).toNat).1.obsoletes.length ∧ (∀ j, j < k → H3 st.kind (nth st.all id).1 (nth (nth st.all (nth l i).toNat).1.obsoletes j) = false) ∧ y = ⟨[(0, (.fp (Dh st pl))), (1, (Ap l)), (2, (.int .i64 ((id : Int)))), (7, (.int .i64 ((i : Int)))), (8, (Ai 5 A9 (((nth st.all ((nth l i).toNat)).1).obsoletes))), (9, (.int .i64 ((k : Int))))], [], 0⟩ ∧ g = (nth st.all (nth l i).toNat).1.obsoletes.length - k) [0, 1, 2, 7, 8, 9] 0 _ (by omega) ⟨0, (by omega), (by exact fun j hj => by omega), (by kernel_rfl), rfl⟩ ?_
  rintro g2 y2 ⟨k, f2_1, f2_2, rfl, rfl⟩
  refine Ab ?_
  refine Aa [] [0, 1, 2, 7, 8, 9, 27] ?_
  refine A2 (p := (k : Int) < ((((nth st.all ((nth l i).toNat)).1).obsoletes).length : Int)) (by kernel_rfl) (fun c2 => ?_) (fun c2 => ?_)
  ·refine Ag ?_
   refine Ab ?_
   refine A0 ?_
   refine Cn [] [0, 1, 2, 7, 8, 9, 10] [] (hk 6 Lb (Kp st pl h id hid) <| hk 11 Q93 (Q5r st.kind (nth st.all id).1 (nth (nth st.all (nth l i).toNat).1.obsoletes k) (by have := Q9h (d := nth (nth st.all (nth l i).toNat).1.obsoletes k); have := hlz.2.2 k (by omega); omega) (by omega)) <| hk0) v0 (cc 9 (p := (0 ≤ (k : Int) ∧ k < (((nth st.all ((nth l i).toNat)).1).obsoletes).length)) (by first | omega | (simp; omega) | (simp; done) | (intros; simp_all; omega) | (intros; simp_all; done)) <| c0) ?_
   refine Aa [] [0, 1, 2, 7, 8, 9, 42] ?_
   refine A3 (q := H3 st.kind (nth st.all id).1 (nth (nth st.all (nth l i).toNat).1.obsoletes k)) (by kernel_rfl) (fun c3 => ?_) (fun c3 => ?_)
   ·try simp only [Bool.and_eq_true, Bool.or_eq_true, Bool.and_eq_false_iff, Bool.or_eq_false_iff, Bool.not_eq_true', Bool.not_eq_false', decide_eq_true_eq, decide_eq_false_iff_not] at c3
    refine Ad [] [6] [] hk0 v0 (cc 2 (p := (0 ≤ (i : Int) ∧ i < l.length)) (by first | omega | (simp; omega) | (simp; done) | (intros; simp_all; omega) | (intros; simp_all; done)) <| c0) ?_
    refine Af ?_
    refine RK wR [(.int .i64 (nth l i))] ?_
    exact Same.of_eq (by simp only [Ah]; rw [hcg, Y2 (i := i) (by omega) f1_2 (Q6y (k := k) (by omega) c3)])
   ·try simp only [Bool.and_eq_true, Bool.or_eq_true, Bool.and_eq_false_iff, Bool.or_eq_false_iff, Bool.not_eq_true', Bool.not_eq_false', decide_eq_true_eq, decide_eq_false_iff_not] at c3
    refine Ag ?_
    refine Ar ?_
    refine Aw 0 [] [0, 1, 2, 7, 8, 9] [] hk0 v0 (cc 1 (p := (-9223372036854775808 ≤ (k : Int) + 1 ∧ (k : Int) + 1 ≤ 9223372036854775807)) (by first | omega | (simp; omega) | (simp; done) | (intros; simp_all; omega) | (intros; simp_all; done)) <| c0) ?_
    refine ⟨by kernel_rfl, _, ?_, k + 1, ?_, ?_, (by kernel_rfl), rfl⟩
    ·omega
    ·omega
    ·intro j hj
     by_cases q : j = k
     ·subst q; exact c3
     ·exact f2_2 j (by omega)
  ·refine Bj ?_
   refine Ar ?_
   refine Aw 0 [] [0, 1, 2, 7] [] hk0 v0 (cc 1 (p := (-9223372036854775808 ≤ (i : Int) + 1 ∧ (i : Int) + 1 ≤ 9223372036854775807)) (by first | omega | (simp; omega) | (simp; done) | (intros; simp_all; omega) | (intros; simp_all; done)) <| c0) ?_
   refine ⟨by kernel_rfl, _, ?_, i + 1, ?_, ?_, (by kernel_rfl), rfl⟩
   ·omega
   ·omega
   ·intro j hj
    by_cases q : j = i
    ·subst q; exact Q6z (k := k) (by omega) f2_2
    ·exact f1_2 j (by omega)
 ·refine Bj ?_
  refine Aa [] [6] ?_
  refine Af ?_
  refine RK wR [(.int .i64 (-1))] ?_
  exact Same.of_eq (by simp only [Ah]; rw [hcg, Yy fun j hj => f1_2 j (by omega)])
set_option maxHeartbeats 1000000 in
set_option maxRecDepth 100000 in
theorem Q5w (st : PoolT) (pl : List (Int × Int)) (h : Hs st pl) (hi : IdxOk st) (l : List Int) (id : Nat) (hl : l.length ≤ 4194304) (hr : ∀ x ∈ l, 0 ≤ x ∧ x < st.all.length) (hid : id < st.all.length) :
  FnV Tryz.prog 85 [(.fp (Dh st pl)), (Ap l), (.int .i64 ((id : Int)))] (.agg [(.int .i64 ((Fj st l (id : Int)).1)), (.int .i64 ((Fj st l (id : Int)).2.1)), (.int .i64 ((Fj st l (id : Int)).2.2))]) := by
 have hpz := Je (hi.2 id hid)
 have hri : ∀ j, j < l.length → 0 ≤ nth l j ∧ nth l j < st.all.length := fun j hj => hr _ (Ma hj)
 refine A1 [.cell 6 64] Tryz.func85 rfl Tryz.ntmps85 rfl rfl (fun B F hF => ?_)
 refine Aa [] [0, 1, 2, 6] ?_
 refine Ad [] [0, 2, 6, 7] [] (hk 3 Z9 (Vn st pl h hi l id hl hr hid) <| hk0) v0 c0 ?_
 refine Ab ?_
 refine Aa [] [0, 2, 6, 7, 16] ?_
 refine A2 (p := (Bi (Bu st (id : Int)) l) < 0) (by kernel_rfl) (fun c1 => ?_) (fun c1 => ?_)
 ·refine Aa [] [6] ?_
  refine Af ?_
  refine RK wR [(.agg [(.int .i64 1), (.int .i64 ((id : Int))), (.int .i64 (-1))])] ?_
  exact Same.of_eq (by simp only [Ah]; unfold Fj; rw [if_neg (by omega), Yz (fun x hx => (hr x hx).1) c1])
 ·have hfo := Y0 hri (Int.not_lt.1 c1)
  have hqz := Je (hi.2 (Bi (Bu st (id : Int)) l).toNat (by omega))
  have hcm := S9 st.kind (nth st.all id).1.evr (nth st.all (Bi (Bu st (id : Int)) l).toNat).1.evr
  unfold Sgn at hcm
  have hcs : Fj st l (id : Int) = (nth [4, 5, 3] ((C6 st.kind (nth st.all id).1.evr (nth st.all (Bi (Bu st (id : Int)) l).toNat).1.evr).1 + 1).toNat, (id : Int), (Bi (Bu st (id : Int)) l)) := by unfold Fj; rw [if_pos (by omega)]; rfl
  refine Ag ?_
  refine Cn [] [2, 6, 7, 8] [] (hk 6 Lb (Kp st pl h id hid) <| hk 10 (al := [(.fp (Dh st pl)), (.int .i64 (Bi (Bu st (id : Int)) l))]) Lb ((Kp st pl h (Bi (Bu st (id : Int)) l).toNat (by omega)).of_args (ImpL.cons Imp.refl (ImpL.cons (Imp.of_eq (congrArg (AV.int .i64) (Mi hfo.1))) ImpL.nil))) <| hk 12 X09 (Q5v st.kind (((nth st.all id).1).evr) (((nth st.all ((Bi (Bu st (id : Int)) l).toNat)).1).evr) (by omega) (by omega)) <| hk0) v0 c0 ?_
  refine Aa [] [2, 6, 7, 8, 10] ?_
  refine Ab ?_
  refine Aa [] [2, 6, 7, 8, 10, 36] ?_
  refine A2 (p := 0 < ((C6 st.kind (((nth st.all id).1).evr) (((nth st.all ((Bi (Bu st (id : Int)) l).toNat)).1).evr)).1)) (by kernel_rfl) (fun c2 => ?_) (fun c2 => ?_)
  ·refine Ar ?_
   refine Ep [] [2, 6, 7, 8, 10] ?_
   refine Ab ?_
   refine Aa [] [2, 6, 7, 10, 38] ?_
   refine A2 (p := ((C6 st.kind (((nth st.all id).1).evr) (((nth st.all ((Bi (Bu st (id : Int)) l).toNat)).1).evr)).1) < 0) (by kernel_rfl) (fun c3 => ?_) (fun c3 => ?_)
   ·exfalso; omega
   ·refine Ag ?_
    refine Aa [] [6] ?_
    refine Af ?_
    refine RK wR [(.agg [(.int .i64 3), (.int .i64 ((id : Int))), (.int .i64 (Bi (Bu st (id : Int)) l))])] ?_
    exact Same.of_eq (by simp only [Ah]; rw [hcs, show (C6 st.kind (nth st.all id).1.evr (nth st.all (Bi (Bu st (id : Int)) l).toNat).1.evr).1 = 1 from by omega]; rfl)
  ·refine Ag ?_
   refine Ab ?_
   refine Aa [] [2, 6, 7, 10, 38] ?_
   refine A2 (p := ((C6 st.kind (((nth st.all id).1).evr) (((nth st.all ((Bi (Bu st (id : Int)) l).toNat)).1).evr)).1) < 0) (by kernel_rfl) (fun c4 => ?_) (fun c4 => ?_)
   ·refine Ar ?_
    refine Ep [] [2, 6, 7, 10] ?_
    refine Aa [] [6] ?_
    refine Af ?_
    refine RK wR [(.agg [(.int .i64 4), (.int .i64 ((id : Int))), (.int .i64 (Bi (Bu st (id : Int)) l))])] ?_
    exact Same.of_eq (by simp only [Ah]; rw [hcs, show (C6 st.kind (nth st.all id).1.evr (nth st.all (Bi (Bu st (id : Int)) l).toNat).1.evr).1 = -1 from by omega]; rfl)
   ·refine Ag ?_
    refine Aa [] [6] ?_
    refine Af ?_
    refine RK wR [(.agg [(.int .i64 5), (.int .i64 ((id : Int))), (.int .i64 (Bi (Bu st (id : Int)) l))])] ?_
    exact Same.of_eq (by simp only [Ah]; rw [hcs, show (C6 st.kind (nth st.all id).1.evr (nth st.all (Bi (Bu st (id : Int)) l).toNat).1.evr).1 = 0 from by omega]; rfl)
set_option maxHeartbeats 1000000 in
set_option maxRecDepth 100000 in
theorem Q5t (st : PoolT) (pl : List (Int × Int)) (h : Hs st pl) (hi : IdxOk st) (ho : Lq st) (l : List Int) (id : Nat) (hl : l.length ≤ 4194304) (hr : ∀ x ∈ l, 0 ≤ x ∧ x < st.all.length) (hid : id < st.all.length) :
  FnV Tryz.prog 86 [(.fp (Dh st pl)), (Ap l), (.int .i64 ((id : Int)))] (.agg [(.int .i64 ((goS A6 st l (id : Int)).1)), (.int .i64 ((goS A6 st l (id : Int)).2.1)), (.int .i64 ((goS A6 st l (id : Int)).2.2))]) := by
 refine A1 [.cell 6 64] Tryz.func86 rfl Tryz.ntmps86 rfl rfl (fun B F hF => ?_)
 refine Aa [] [0, 1, 2, 6] ?_
 refine Ad [] [0, 1, 2, 6, 7] [] (hk 3 Z9 (Vn st pl h hi l id hl hr hid) <| hk0) v0 c0 ?_
 refine Ab ?_
 refine Aa [] [0, 1, 2, 6, 7, 13] ?_
 refine A2 (p := 0 ≤ (Bi (Bu st (id : Int)) l)) (by kernel_rfl) (fun c1 => ?_) (fun c1 => ?_)
 ·refine Aa [] [6] ?_
  refine Af ?_
  refine RK wR [(.agg [(.int .i64 6), (.int .i64 ((id : Int))), (.int .i64 (Bi (Bu st (id : Int)) l))])] ?_
  exact Same.of_eq (by simp only [Ah]; unfold goS; rw [if_pos (by assumption)])
 ·refine Ag ?_
  refine Ad [] [2, 6, 7] [] (hk 3 X08 (Q5o st pl h hi ho l id hl hr hid) <| hk0) v0 c0 ?_
  refine Ab ?_
  refine Aa [] [2, 6, 7, 22] ?_
  refine A2 (p := 0 ≤ (Bi (Ee A6 st (id : Int)) l)) (by kernel_rfl) (fun c2 => ?_) (fun c2 => ?_)
  ·refine Aa [] [6] ?_
   refine Af ?_
   refine RK wR [(.agg [(.int .i64 7), (.int .i64 ((id : Int))), (.int .i64 (Bi (Ee A6 st (id : Int)) l))])] ?_
   exact Same.of_eq (by simp only [Ah]; unfold goS; rw [if_neg (by assumption), if_pos (by assumption)])
  ·refine Ag ?_
   refine Aa [] [6] ?_
   refine Af ?_
   refine RK wR [(.agg [(.int .i64 2), (.int .i64 ((id : Int))), (.int .i64 (-1))])] ?_
   exact Same.of_eq (by simp only [Ah]; unfold goS; rw [if_neg (by assumption), if_neg (by assumption), Yz (p := Ee A6 st (id : Int)) (fun x hx => (hr x hx).1) (by omega)])
set_option maxHeartbeats 1000000 in
set_option maxRecDepth 100000 in
theorem Q5m (st : PoolT) (pl : List (Int × Int)) (h : Hs st pl) (hi : IdxOk st) (ho : Lq st) (a b : List Int) (hla : a.length ≤ 2097152) (hlb : b.length ≤ 2097152) (hra : ∀ x ∈ a, 0 ≤ x ∧ x < st.all.length) (hrb : ∀ x ∈ b, 0 ≤ x ∧ x < st.all.length) :
  FnV Tryz.prog 31 [(.fp (Dh st pl)), (Ap a), (Ap b)] (Ai 3 Bs (Ez (B9 A6 st) a b)) := by
 have hn := h.1
 have h200 := hi.1
 have hcl := Ky b a
 have hgl := Ky a b
 have hrc : ∀ x ∈ (Ac b a), 0 ≤ x ∧ x < st.all.length := fun x hx => hrb x (minusZ_mem.1 hx).1
 have hrg : ∀ x ∈ (Ac a b), 0 ≤ x ∧ x < st.all.length := fun x hx => hra x (minusZ_mem.1 hx).1
 refine A1 [.tmp 6] Tryz.func31 rfl Tryz.ntmps31 rfl rfl (fun B F hF => ?_)
 refine Aa [] [0, 1, 2] ?_
 refine Ad [] [0, 1, 2, 7] [] (hk 2 Sh (Q7 b a (by omega) (by omega)) <| hk0) v0 c0 ?_
 refine Ad [] [0, 7, 8] [] (hk 2 Sh (Q7 a b (by omega) (by omega)) <| hk0) v0 c0 ?_
 refine Aa [] [0, 7, 8, 9] ?_
 refine Ab ?_
 refine Aa [] [0, 7, 8, 9, 10] ?_
 refine A0 ?_
 refine Pw 64 3 9 (y := ⟨[(0, (.fp (Dh st pl))), (7, (Ap (Ac b a))), (8, (Ap (Ac a b))), (9, (.own 0)), (10, (.int .i64 0))], [(0, (.grow [] 64 3))], 1⟩) (by kernel_rfl) (by kernel_rfl) ?_
 refine Bq (fun g y => ∃ (i : Nat), i ≤ pl.length ∧ y = ⟨[(0, (.fp (Dh st pl))), (7, (Ap (Ac b a))), (8, (Ap (Ac a b))), (9, (.own 0)), (10, (.int .i64 ((i : Int))))], [(0, (.grow ((Dv st (Ac b a) (Ac a b) i).map Bs) 64 3))], 1⟩ ∧ g = pl.length - i) [0, 7, 8, 9, 10] 1 _ (by omega) ⟨0, (by omega), (by kernel_rfl), rfl⟩ ?_
 rintro g1 y1 ⟨i, f1_1, rfl, rfl⟩
 have hsl := Q3q st (Ac b a) (Ac a b) i
 have hsm : ((Dv st (Ac b a) (Ac a b) i).map Bs).length = (Dv st (Ac b a) (Ac a b) i).length := List.length_map _
 refine Ab ?_
 refine Ad [] [0, 7, 8, 9, 10, 22] [] (hk 2 X0d (Q5q st pl) <| hk0) v0 c0 ?_
 refine A2 (p := (i : Int) < (pl.length : Int)) (by kernel_rfl) (fun c1 => ?_) (fun c1 => ?_)
 ·refine Ag ?_
  refine Ab ?_
  refine A0 ?_
  refine Ad [] [0, 7, 8, 9, 10, 11] [] (hk 2 Sk (Q8 (Ac b a) (i : Int) (by omega)) <| hk0) v0 c0 ?_
  refine Ad [] [0, 7, 8, 9, 10, 11, 12] [] (hk 2 Sk (Q8 (Ac a b) (i : Int) (by omega)) <| hk0) v0 c0 ?_
  refine Ab ?_
  refine Aa [] [0, 7, 8, 9, 10, 12, 31] ?_
  refine A2 (p := (i : Int) ∈ (Ac b a)) (by kernel_rfl) (fun c2 => ?_) (fun c2 => ?_)
  ·refine Ar ?_
   refine Aw 0 [] [0, 7, 8, 9, 10, 12] [] (hk 4 Q9s (Q5w st pl h hi (Ac a b) i (by omega) hrg (by omega)) <| hk0) v0 (cc 6 (p := ((((Dv st (Ac b a) (Ac a b) i).map Bs).length + 1) * 24 ≤ 140737488355328)) (by first | omega | (simp; omega) | (simp; done) | (intros; simp_all; omega) | (intros; simp_all; done)) <| c0) ?_
   refine Aa [] [0, 7, 8, 9, 10, 39] ?_
   refine A2 (p := (i : Int) ∈ (Ac a b)) (by kernel_rfl) (fun c3 => ?_) (fun c3 => ?_)
   ·exact absurd (minusZ_mem.1 c2).1 (minusZ_mem.1 c3).2
   ·refine Ag ?_
    refine Ar ?_
    refine Aw 0 [] [0, 7, 8, 9, 10] [] hk0 v0 (cc 1 (p := (-9223372036854775808 ≤ (i : Int) + 1 ∧ (i : Int) + 1 ≤ 9223372036854775807)) (by first | omega | (simp; omega) | (simp; done) | (intros; simp_all; omega) | (intros; simp_all; done)) <| c0) ?_
    refine ⟨by kernel_rfl, _, ?_, i + 1, ?_, (Eq.trans (b := (⟨[(0, (.fp (Dh st pl))), (7, (Ap (Ac b a))), (8, (Ap (Ac a b))), (9, (.own 0)), (10, (.int .i64 ((i : Int) + 1)))], [(0, (.grow (((Dv st (Ac b a) (Ac a b) i).map Bs) ++ ([(.agg [(.int .i64 ((Fj st (Ac a b) (i : Int)).1)), (.int .i64 ((Fj st (Ac a b) (i : Int)).2.1)), (.int .i64 ((Fj st (Ac a b) (i : Int)).2.2))])] : List AV)) 64 3))], 1⟩ : St)) (by kernel_rfl) (by rw [Un (.inl c2), B9, if_pos c2, List.map_append] <;> kernel_rfl)), rfl⟩
    ·omega
    ·omega
  ·refine Ag ?_
   refine Aa [] [0, 7, 8, 9, 10, 39] ?_
   refine A2 (p := (i : Int) ∈ (Ac a b)) (by kernel_rfl) (fun c4 => ?_) (fun c4 => ?_)
   ·refine Ar ?_
    refine Aw 0 [] [0, 7, 8, 9, 10] [] (hk 4 Q9r (Q5t st pl h hi ho (Ac b a) i (by omega) hrc (by omega)) <| hk0) v0 (cc 6 (p := ((((Dv st (Ac b a) (Ac a b) i).map Bs).length + 1) * 24 ≤ 140737488355328)) (by first | omega | (simp; omega) | (simp; done) | (intros; simp_all; omega) | (intros; simp_all; done)) <| c0) ?_
    refine Ar ?_
    refine Aw 0 [] [0, 7, 8, 9, 10] [] hk0 v0 (cc 1 (p := (-9223372036854775808 ≤ (i : Int) + 1 ∧ (i : Int) + 1 ≤ 9223372036854775807)) (by first | omega | (simp; omega) | (simp; done) | (intros; simp_all; omega) | (intros; simp_all; done)) <| c0) ?_
    refine ⟨by kernel_rfl, _, ?_, i + 1, ?_, (Eq.trans (b := (⟨[(0, (.fp (Dh st pl))), (7, (Ap (Ac b a))), (8, (Ap (Ac a b))), (9, (.own 0)), (10, (.int .i64 ((i : Int) + 1)))], [(0, (.grow (((Dv st (Ac b a) (Ac a b) i).map Bs) ++ ([(.agg [(.int .i64 ((goS A6 st (Ac b a) (i : Int)).1)), (.int .i64 ((goS A6 st (Ac b a) (i : Int)).2.1)), (.int .i64 ((goS A6 st (Ac b a) (i : Int)).2.2))])] : List AV)) 64 3))], 1⟩ : St)) (by kernel_rfl) (by rw [Un (.inr c4), B9, if_neg c2, List.map_append] <;> kernel_rfl)), rfl⟩
    ·omega
    ·omega
   ·refine Ag ?_
    refine Ar ?_
    refine Aw 0 [] [0, 7, 8, 9, 10] [] hk0 v0 (cc 1 (p := (-9223372036854775808 ≤ (i : Int) + 1 ∧ (i : Int) + 1 ≤ 9223372036854775807)) (by first | omega | (simp; omega) | (simp; done) | (intros; simp_all; omega) | (intros; simp_all; done)) <| c0) ?_
    refine ⟨by kernel_rfl, _, ?_, i + 1, ?_, (Eq.trans (b := (⟨[(0, (.fp (Dh st pl))), (7, (Ap (Ac b a))), (8, (Ap (Ac a b))), (9, (.own 0)), (10, (.int .i64 ((i : Int) + 1)))], [(0, (.grow ((Dv st (Ac b a) (Ac a b) i).map Bs) 64 3))], 1⟩ : St)) (by kernel_rfl) (by rw [Q3p c2 c4] <;> kernel_rfl)), rfl⟩
    ·omega
    ·omega
 ·refine Bj ?_
  refine Aa [] [6] ?_
  refine Af ?_
  refine RK wR [(.row 3 ((Dv st (Ac b a) (Ac a b) i).map Bs).length (fun ix => ((Dv st (Ac b a) (Ac a b) i).map Bs).getD ix Bl))] ?_
  rw [show i = st.all.length from by omega, Q3r hra hrb]
  simp only [Ah]
  exact (Imp.list (f := Bs) (List.length_map _)).same
set_option maxHeartbeats 400000 in
set_option maxRecDepth 100000 in
theorem Q5x (x : Cd) :
  FnV Tryz.prog 32 [(.agg [(.int .i64 x.1), (.int .i64 x.2.1), (.int .i64 x.2.2)])] (.bool (Dt x.1)) := by
 refine A1 [.tmp 2] Tryz.func32 rfl Tryz.ntmps32 rfl rfl (fun B F hF => ?_)
 refine Ad [] [1] [(1, 1)] hk0 v0 c0 ?_
 obtain ⟨b1, hb1⟩ : ∃ b, b = (decide (x.1 = 1)) := ⟨_, rfl⟩
 obtain ⟨b2, hb2⟩ : ∃ b, b = (b1 || (decide (x.1 = 3))) := ⟨_, rfl⟩
 obtain ⟨b3, hb3⟩ : ∃ b, b = (b2 || (decide (x.1 = 4))) := ⟨_, rfl⟩
 refine Ad (CS := [(5, ((!b1) = true → (!b1) = true)), (6, ((!b1) = true → (!b1) = true)), (7, (b1 = false → (!b1) = true)), (10, ((!b2) = true → (!b2) = true)), (11, ((!b2) = true → (!b2) = true)), (12, (b2 = false → (!b2) = true)), (15, ((!b3) = true → (!b3) = true)), (16, ((!b3) = true → (!b3) = true)), (17, (b3 = false → (!b3) = true))]) [7, 8, 9, 12, 13, 14, 17, 18, 19] [2] [] hk0 (vk 4 6 (a := .bool (decide (x.1 = 1))) (b := .bool b1) (Imp.of_eq (by rw [hb1])) <| vk 9 11 (a := .bool (b1 || (decide (x.1 = 3)))) (b := .bool b2) (Imp.of_eq (by rw [hb2])) <| vk 14 16 (a := .bool (b2 || (decide (x.1 = 4)))) (b := .bool b3) (Imp.of_eq (by rw [hb3])) <| v0) (by refine cc _ ?_ <| cc _ ?_ <| cc _ ?_ <| cc _ ?_ <| cc _ ?_ <| cc _ ?_ <| cc _ ?_ <| cc _ ?_ <| cc _ ?_ c0 <;> first | omega | (simp; omega) | (simp; done) | (intros; simp_all; omega) | (intros; simp_all; done)) ?_
 refine Af ?_
 refine RK wR [(.bool (b3 || (decide (x.1 = 5))))] ?_
 subst hb3 hb2 hb1
 exact Same.of_eq (by simp only [Ah]; unfold Dt; simp only [Bool.or_assoc])
set_option maxHeartbeats 400000 in
set_option maxRecDepth 100000 in
theorem Q5u (x : Cd) :
  FnV Tryz.prog 33 [(.agg [(.int .i64 x.1), (.int .i64 x.2.1), (.int .i64 x.2.2)])] (.bool (Ff x.1)) := by
 refine A1 [.tmp 2] Tryz.func33 rfl Tryz.ntmps33 rfl rfl (fun B F hF => ?_)
 refine Ad [] [1] [(1, 1)] hk0 v0 c0 ?_
 obtain ⟨b1, hb1⟩ : ∃ b, b = (decide (x.1 = 2)) := ⟨_, rfl⟩
 obtain ⟨b2, hb2⟩ : ∃ b, b = (b1 || (decide (x.1 = 6))) := ⟨_, rfl⟩
 refine Ad (CS := [(5, ((!b1) = true → (!b1) = true)), (6, ((!b1) = true → (!b1) = true)), (7, (b1 = false → (!b1) = true)), (10, ((!b2) = true → (!b2) = true)), (11, ((!b2) = true → (!b2) = true)), (12, (b2 = false → (!b2) = true))]) [7, 8, 9, 12, 13, 14] [2] [] hk0 (vk 4 6 (a := .bool (decide (x.1 = 2))) (b := .bool b1) (Imp.of_eq (by rw [hb1])) <| vk 9 11 (a := .bool (b1 || (decide (x.1 = 6)))) (b := .bool b2) (Imp.of_eq (by rw [hb2])) <| v0) (by refine cc _ ?_ <| cc _ ?_ <| cc _ ?_ <| cc _ ?_ <| cc _ ?_ <| cc _ ?_ c0 <;> first | omega | (simp; omega) | (simp; done) | (intros; simp_all; omega) | (intros; simp_all; done)) ?_
 refine Af ?_
 refine RK wR [(.bool (b2 || (decide (x.1 = 7))))] ?_
 subst hb2 hb1
 exact Same.of_eq (by simp only [Ah]; unfold Ff; simp only [Bool.or_assoc])
set_option maxHeartbeats 1000000 in
set_option maxRecDepth 100000 in
theorem Q5y (a : List Int) (l : List Cd) (ha : a.length ≤ 1048576) (hl : l.length ≤ 2097152) :
  FnV Tryz.prog 28 [(Ap a), (Ai 3 Bs l)] (Ap (Cp a l)) := by
 refine A1 [.tmp 4] Tryz.func28 rfl Tryz.ntmps28 rfl rfl (fun B F hF => ?_)
 refine Aa [] [0, 1] ?_
 refine Ad [] [1, 5] [] (hk 1 Q9z (Q5n a (by omega)) <| hk0) v0 c0 ?_
 refine Ab ?_
 refine Aa [] [1, 5, 6] ?_
 refine A0 ?_
 refine Bq (fun g y => ∃ (i : Nat), i ≤ l.length ∧ y = ⟨[(1, (Ai 3 Bs l)), (5, (Ap (Cp a (l.take i)))), (6, (.int .i64 ((i : Int))))], [], 0⟩ ∧ g = l.length - i) [1, 5, 6] 0 _ (by omega) ⟨0, (by omega), (by kernel_rfl), rfl⟩ ?_
 rintro g1 y1 ⟨i, f1_1, rfl, rfl⟩
 have hal := Tj a (l.take i)
 have htl := List.length_take_le i l
 refine Ab ?_
 refine Aa [] [1, 5, 6, 14] ?_
 refine A2 (p := (i : Int) < (l.length : Int)) (by kernel_rfl) (fun c1 => ?_) (fun c1 => ?_)
 ·refine Ag ?_
  refine Ab ?_
  refine A0 ?_
  refine Ad [] [1, 5, 6, 7] [] (hk 4 X0f (Q5x (nth l i)) <| hk0) v0 (cc 2 (p := (0 ≤ (i : Int) ∧ i < l.length)) (by first | omega | (simp; omega) | (simp; done) | (intros; simp_all; omega) | (intros; simp_all; done)) <| c0) ?_
  refine Ad [] [1, 5, 6, 7, 8] [] (hk 4 X0e (Q5u (nth l i)) <| hk0) v0 (cc 2 (p := (0 ≤ (i : Int) ∧ i < l.length)) (by first | omega | (simp; omega) | (simp; done) | (intros; simp_all; omega) | (intros; simp_all; done)) <| c0) ?_
  refine Ab ?_
  refine Aa [] [1, 5, 6, 8, 27] ?_
  refine A3 (q := Dt (nth l i).1) (by kernel_rfl) (fun c2 => ?_) (fun c2 => ?_)
  ·try simp only [Bool.and_eq_true, Bool.or_eq_true, Bool.and_eq_false_iff, Bool.or_eq_false_iff, Bool.not_eq_true', Bool.not_eq_false', decide_eq_true_eq, decide_eq_false_iff_not] at c2
   refine Ar ?_
   refine Aw 0 [] [1, 5, 6, 8] [] (hk 6 Sl ((Ra (Cp a (l.take i)) ((nth l i).2.1) (by omega)).to (Same.of_eq (by rw [Q52 (Q1i _ _)]))) <| hk0) v0 (cc 3 (p := (0 ≤ (i : Int) ∧ i < l.length)) (by first | omega | (simp; omega) | (simp; done) | (intros; simp_all; omega) | (intros; simp_all; done)) <| c0) ?_
   refine Aa [] [1, 5, 6, 35] ?_
   refine A3 (q := Ff (nth l i).1) (by kernel_rfl) (fun c3 => ?_) (fun c3 => ?_)
   ·try simp only [Bool.and_eq_true, Bool.or_eq_true, Bool.and_eq_false_iff, Bool.or_eq_false_iff, Bool.not_eq_true', Bool.not_eq_false', decide_eq_true_eq, decide_eq_false_iff_not] at c3
    rw [X15 c2] at c3; cases c3
   ·try simp only [Bool.and_eq_true, Bool.or_eq_true, Bool.and_eq_false_iff, Bool.or_eq_false_iff, Bool.not_eq_true', Bool.not_eq_false', decide_eq_true_eq, decide_eq_false_iff_not] at c3
    refine Ag ?_
    refine Ar ?_
    refine Aw 0 [] [1, 5, 6] [] hk0 v0 (cc 1 (p := (-9223372036854775808 ≤ (i : Int) + 1 ∧ (i : Int) + 1 ≤ 9223372036854775807)) (by first | omega | (simp; omega) | (simp; done) | (intros; simp_all; omega) | (intros; simp_all; done)) <| c0) ?_
    refine ⟨by kernel_rfl, _, ?_, i + 1, ?_, (Eq.trans (b := (⟨[(1, (Ai 3 Bs l)), (5, (Ap (A5 (Cp a (l.take i)) [(nth l i).2.1]))), (6, (.int .i64 ((i : Int) + 1)))], [], 0⟩ : St)) (by kernel_rfl) (by rw [Lj (by omega), Dq, if_pos c2] <;> kernel_rfl)), rfl⟩
    ·omega
    ·omega
  ·try simp only [Bool.and_eq_true, Bool.or_eq_true, Bool.and_eq_false_iff, Bool.or_eq_false_iff, Bool.not_eq_true', Bool.not_eq_false', decide_eq_true_eq, decide_eq_false_iff_not] at c2
   refine Ag ?_
   refine Aa [] [1, 5, 6, 35] ?_
   refine A3 (q := Ff (nth l i).1) (by kernel_rfl) (fun c4 => ?_) (fun c4 => ?_)
   ·try simp only [Bool.and_eq_true, Bool.or_eq_true, Bool.and_eq_false_iff, Bool.or_eq_false_iff, Bool.not_eq_true', Bool.not_eq_false', decide_eq_true_eq, decide_eq_false_iff_not] at c4
    refine Ar ?_
    refine Aw 0 [] [1, 5, 6] [(7, 42)] (hk 7 Sh (Q7 (Cp a (l.take i)) [(nth l i).2.1] (by omega) (by simp)) <| hk0) (vk 7 42 (b := (Ap [(nth l i).2.1])) (Imp.list (f := AV.int .i64) rfl) <| v0) (cc 3 (p := (0 ≤ (i : Int) ∧ i < l.length)) (by first | omega | (simp; omega) | (simp; done) | (intros; simp_all; omega) | (intros; simp_all; done)) <| c0) ?_
    refine Ar ?_
    refine Aw 0 [] [1, 5, 6] [] hk0 v0 (cc 1 (p := (-9223372036854775808 ≤ (i : Int) + 1 ∧ (i : Int) + 1 ≤ 9223372036854775807)) (by first | omega | (simp; omega) | (simp; done) | (intros; simp_all; omega) | (intros; simp_all; done)) <| c0) ?_
    refine ⟨by kernel_rfl, _, ?_, i + 1, ?_, (Eq.trans (b := (⟨[(1, (Ai 3 Bs l)), (5, (Ap (Ac (Cp a (l.take i)) [(nth l i).2.1]))), (6, (.int .i64 ((i : Int) + 1)))], [], 0⟩ : St)) (by kernel_rfl) (by rw [Lj (by omega), Dq, if_neg (by simp [c2]), if_pos c4] <;> kernel_rfl)), rfl⟩
    ·omega
    ·omega
   ·try simp only [Bool.and_eq_true, Bool.or_eq_true, Bool.and_eq_false_iff, Bool.or_eq_false_iff, Bool.not_eq_true', Bool.not_eq_false', decide_eq_true_eq, decide_eq_false_iff_not] at c4
    refine Ag ?_
    refine Ar ?_
    refine Aw 0 [] [1, 5, 6] [] hk0 v0 (cc 1 (p := (-9223372036854775808 ≤ (i : Int) + 1 ∧ (i : Int) + 1 ≤ 9223372036854775807)) (by first | omega | (simp; omega) | (simp; done) | (intros; simp_all; omega) | (intros; simp_all; done)) <| c0) ?_
    refine ⟨by kernel_rfl, _, ?_, i + 1, ?_, (Eq.trans (b := (⟨[(1, (Ai 3 Bs l)), (5, (Ap (Cp a (l.take i)))), (6, (.int .i64 ((i : Int) + 1)))], [], 0⟩ : St)) (by kernel_rfl) (by rw [Lj (by omega), Dq, if_neg (by simp [c2]), if_neg (by simp [c4])] <;> kernel_rfl)), rfl⟩
    ·omega
    ·omega
 ·refine Bj ?_
  refine Aa [] [4] ?_
  refine Af ?_
  refine RK wR [(Ap (Cp a (l.take i)))] ?_
  exact Same.of_eq (by simp only [Ah]; rw [show i = l.length from by omega, List.take_length])
end Sv
end Go.Proofs.YtlfjokcbkopfeaaGreatDoor
end
section
namespace Go.Proofs.YtlfjokcbkopfeaaGreatDoor
open Go Go.RowKit
namespace Sv
attribute [local irreducible] SW SO Bg
theorem Xw {n : Nat} {l : List Int} (h : (l.all fun x => decide (0 ≤ x) && decide (x < (n : Int))) = true) : ∀ x ∈ l, 0 ≤ x ∧ x < n := by
 intro x hx
 have := List.all_eq_true.1 h x hx
 simpa using this
theorem Xv {st : PoolT} {n : Nat} (hn : n = st.all.length) {l : List Int} (h : (l.all fun x => decide (0 ≤ x) && decide (x < (n : Int))) = false) : l.any (Dy st) = true := by
 subst hn
 rw [List.all_eq_false] at h
 obtain ⟨x, hx, k⟩ := h
 rw [List.any_eq_true]
 refine ⟨x, hx, ?_⟩
 unfold Dy
 simp only [Bool.and_eq_true, decide_eq_true_eq] at k
 simp only [Bool.or_eq_true, decide_eq_true_eq]
 omega
set_option maxHeartbeats 1000000 in
set_option maxRecDepth 100000 in
theorem diffTells_ok (kd : Int) (l : List RepoT) (hll : l.length ≤ 1048576) (hl : ∀ i, i < l.length → (nth l i).size ≤ 1048576) (fr tw : List Int) (ha : fr.length ≤ 1048576) (hb : tw.length ≤ 1048576) (q : List Cd) (hq : q.length ≤ 1048576) :
  FnV Tryz.prog 5 [(.int .i64 kd), (Ai 4 Bd l), (Ap fr), (Ap tw), (Ai 3 Bs q)] (.bool true) := by
 have hl4 : ∀ i, i < l.length → (nth l i).size ≤ 4194304 := fun i hi => Nat.le_trans (hl i hi) (by decide)
 have hi := Q04 (k := An kd) hl4
 have hat := X2k (An kd) l
 have hpl : (Ao (An kd) l).2.length = (Ao (An kd) l).1.all.length := hat.1
 have hob : Lq (Ao (An kd) l).1 := Q58 fun q hq => (Q6b (X2h _ _ q hq)).2.2.1
 refine A1 [.tmp 10] Tryz.func5 rfl Tryz.ntmps5 rfl rfl (fun B F hF => ?_)
 refine Aa [] [0, 1, 2, 3, 4] ?_
 refine Ad [] [0, 1, 2, 3, 4, 11] [] (hk 0 X0i X2q <| hk0) v0 c0 ?_
 refine Ad [] [2, 3, 4, 11, 12, 13] [] (hk 2 Za (Q2p kd l (by omega) hl4) <| hk0) v0 c0 ?_
 refine Ab ?_
 refine Aa [] [2, 3, 4, 12, 13, 32] ?_
 refine D6 (by kernel_rfl) ?_
 refine Ag ?_
 refine Ad [] [2, 3, 12, 13, 14] [] (hk 2 Zp (Q2v fr q (by omega) (by omega)) <| hk 5 X0h (Q5y fr q (by omega) (by omega)) <| hk 6 Z2 ((Vj (Cp fr q) (Cp fr q) (by have := Tj fr q; omega)).to (Same.of_eq (congrArg AV.bool (decide_eq_true rfl)))) <| hk0) v0 c0 ?_
 refine Ab ?_
 refine Aa [] [2, 3, 12, 13, 41] ?_
 refine D6 (by kernel_rfl) ?_
 refine Ag ?_
 refine Ad [] [2, 3, 13, 15, 16] [] (hk 3 Zo (Q16 (Ao (An kd) l).1 hi fr tw (by omega) (by omega)) <| hk0) v0 c0 ?_
 refine Ad [] [2, 3, 13, 15, 16, 17] [] (hk 2 Zx (Vo (Ao (An kd) l).1 (Ao (An kd) l).2 fr (by omega)) <| hk0) v0 c0 ?_
 refine Ad [] [2, 3, 13, 15, 16, 17, 18] [] (hk 2 Zx (Vo (Ao (An kd) l).1 (Ao (An kd) l).2 tw (by omega)) <| hk0) v0 c0 ?_
 refine Ab ?_
 obtain ⟨b1, hb1⟩ : ∃ b, b = (!(fr.all fun x => decide (0 ≤ x) && decide (x < ((Ao (An kd) l).2.length : Int)))) := ⟨_, rfl⟩
 refine Ad (CS := [(4, ((!b1) = true → (!b1) = true)), (5, (b1 = false → (!b1) = true))]) [58, 59] [2, 3, 13, 15, 16, 60] [] hk0 (vk 3 57 (a := .bool (!(fr.all fun x => decide (0 ≤ x) && decide (x < ((Ao (An kd) l).2.length : Int))))) (b := .bool b1) (Imp.of_eq (by rw [hb1])) <| v0) (by refine cc _ ?_ <| cc _ ?_ c0 <;> first | omega | (simp; omega) | (simp; done) | (intros; simp_all; omega) | (intros; simp_all; done)) ?_
 refine A3 (q := b1 || (!(tw.all fun x => decide (0 ≤ x) && decide (x < ((Ao (An kd) l).2.length : Int))))) (by kernel_rfl) (fun c1 => ?_) (fun c1 => ?_)
 ·subst hb1
  try simp only [Bool.and_eq_true, Bool.or_eq_true, Bool.and_eq_false_iff, Bool.or_eq_false_iff, Bool.not_eq_true', Bool.not_eq_false', decide_eq_true_eq, decide_eq_false_iff_not] at c1
  have ek : (D1 A6 (Ao (An kd) l).1 fr tw) = ([], 69) := by unfold D1; rw [if_pos (c1.imp (Xv hpl) (Xv hpl))]
  obtain ⟨b2, hb2⟩ : ∃ b, b = (decide ((((D1 A6 (Ao (An kd) l).1 fr tw).1).length : Int) = 0)) := ⟨_, rfl⟩
  obtain ⟨b3, hb3⟩ : ∃ b, b = (b2 && (decide (((D1 A6 (Ao (An kd) l).1 fr tw).2) = 69))) := ⟨_, rfl⟩
  refine Ad (CS := [(5, (b2 = true → b2 = true)), (6, (b2 = true → b2 = true))]) [65, 66] [10] [] hk0 (vk 4 64 (a := .bool (decide ((((D1 A6 (Ao (An kd) l).1 fr tw).1).length : Int) = 0))) (b := .bool b2) (Imp.of_eq (by rw [hb2])) <| vk 7 67 (a := .bool (b2 && (decide (((D1 A6 (Ao (An kd) l).1 fr tw).2) = 69)))) (b := .bool b3) (Imp.of_eq (by rw [hb3])) <| v0) (by refine cc _ ?_ <| cc _ ?_ c0 <;> first | omega | (simp; omega) | (simp; done) | (intros; simp_all; omega) | (intros; simp_all; done)) ?_
  refine Af ?_
  refine RK wR [(.bool b3)] ?_
  subst hb3 hb2
  refine Same.of_eq ?_
  simp only [Ah]
  rw [ek]; rfl
 ·subst hb1
  try simp only [Bool.and_eq_true, Bool.or_eq_true, Bool.and_eq_false_iff, Bool.or_eq_false_iff, Bool.not_eq_true', Bool.not_eq_false', decide_eq_true_eq, decide_eq_false_iff_not] at c1
  have ka : ∀ x ∈ fr, 0 ≤ x ∧ x < (Ao (An kd) l).1.all.length := by rw [← hpl]; exact Xw c1.1
  have kb : ∀ x ∈ tw, 0 ≤ x ∧ x < (Ao (An kd) l).1.all.length := by rw [← hpl]; exact Xw c1.2
  have ek := Qk (m := A6) ka kb
  have hsl : (Ez (B9 A6 (Ao (An kd) l).1) fr tw).length ≤ 4194304 := by rw [Q3n]; have k1 := T9 (Ac tw fr) (Ac fr tw); have k2 := Ky tw fr; have k3 := Ky fr tw; omega
  refine Ag ?_
  refine Ad [] [16, 19] [] (hk 4 X0g (Q5m (Ao (An kd) l).1 (Ao (An kd) l).2 hat hi hob fr tw (by omega) (by omega) ka kb) <| hk 5 Zn ((Vk ((D1 A6 (Ao (An kd) l).1 fr tw).1) (Ez (B9 A6 (Ao (An kd) l).1) fr tw) (by rw [ek]; exact Nat.le_trans hsl (by decide))).to (Same.of_eq (congrArg AV.bool (decide_eq_true (by rw [ek]))))) <| hk0) v0 c0 ?_
  obtain ⟨b4, hb4⟩ : ∃ b, b = (decide (((D1 A6 (Ao (An kd) l).1 fr tw).2) = 0)) := ⟨_, rfl⟩
  refine Ad [] [10] [] hk0 (vk 5 78 (a := .bool (decide (((D1 A6 (Ao (An kd) l).1 fr tw).2) = 0))) (b := .bool b4) (Imp.of_eq (by rw [hb4])) <| v0) c0 ?_
  refine Af ?_
  refine RK wR [(.bool b4)] ?_
  subst hb4
  refine Same.of_eq ?_
  simp only [Ah]
  rw [ek]; rfl
end Sv
end Go.Proofs.YtlfjokcbkopfeaaGreatDoor
end
section
namespace Go.Proofs.YtlfjokcbkopfeaaGreatDoor
open Go Go.RowKit
section
variable {H : Type} {enc : TypeId × Value → H} {P : Program} {W : World}
def Two {α β : Type} (R : α → β → Prop) : List α → List β → Prop
  | [], [] => True
  | a :: l, b :: m => R a b ∧ Two R l m
  | _, _ => False
theorem Two.len {α β : Type} {R : α → β → Prop} : ∀ {l : List α} {m : List β}, Two R l m → m.length = l.length
  | [], [], _ => rfl
  | _ :: _, _ :: _, h => by simp only [List.length_cons, Two.len h.2]
theorem X27 {w : World} {a : Addr} {v : Value} (h : w.cell? a = some v) : a.spot = none := by
  unfold World.cell? at h
  cases hs : a.spot with
  | none => rfl
  | some k => rw [hs] at h; split at h <;> simp at h
theorem Wu {α : Type} {e : TypeId} {sz n : Nat} {a : Addr} (hc : P.cellsOf e = sz) {Q : α → List Value → Prop} {size : α → Nat}
    (each : ∀ cs' y, cs'.length = sz → DataW.trod enc P W 0 (fun _ => true) true n e cs' = some y → ∃ x, Q x cs' ∧ size x ≤ Rows.uptoBulk y.1) :
    ∀ (elems : List (DataW H × List MemPlace)) (i : Nat), (∀ j, j < elems.length → (W.cells? 0 (a.add ((i + j) * sz)) sz).bind (DataW.trod enc P W 0 (fun _ => true) true n e) = elems[j]?) →
      ∃ (l : List α) (css : List (List Value)), l.length = elems.length ∧ Two Q l css ∧ (l.map size).sum ≤ Rows.uptoBulkAll (elems.map (·.1)) ∧ (∀ c ∈ css, c.length = sz) ∧
        ∀ j u, css.flatten[j]? = some u → W.cell? (a.add (i * sz + j)) = some u
  | [], i, _ => ⟨[], [], rfl, trivial, by simp, by simp, by simp⟩
  | y :: r, i, h => by
    have h0 := h 0 (by simp)
    simp only [Nat.add_zero, List.getElem?_cons_zero] at h0
    obtain ⟨cs', h1, h2⟩ := Option.bind_eq_some_iff.1 h0
    obtain ⟨_, hl, hcs⟩ := World.cells?_some h1
    obtain ⟨x, hx, hs⟩ := each cs' y hl h2
    obtain ⟨l, css, e1, e2, e3, e4, e5⟩ := Wu hc each r (i + 1) (fun j hj => by
      have := h (j + 1) (by simpa using hj)
      rw [show i + (j + 1) = i + 1 + j by omega] at this
      simpa using this)
    refine ⟨x :: l, cs' :: css, by simp [e1], ⟨hx, e2⟩, ?_, ?_, ?_⟩
    · simp only [List.map_cons, List.sum_cons, Rows.uptoBulkAll]; omega
    · intro c hc'; rcases List.mem_cons.1 hc' with rfl | hc'
      · exact hl
      · exact e4 c hc'
    · intro j u hu
      rw [List.flatten_cons] at hu
      by_cases hj : j < sz
      · rw [List.getElem?_append_left (by omega)] at hu
        have := hcs j hj
        rw [hu] at this
        rw [← this]
        congr 1
        show a.add (i * sz + j) = (a.add (i * sz)).add j
        unfold Addr.add
        by_cases h1 : i * sz = 0 <;> by_cases h2 : j = 0 <;> simp [h1, h2, Nat.add_assoc]
      · rw [List.getElem?_append_right (by omega), hl] at hu
        have := e5 (j - sz) u hu
        rw [← this]; congr 2
        have : (i + 1) * sz = i * sz + sz := by rw [Nat.add_mul, Nat.one_mul]
        omega
theorem Q6r {α : Type} {t e : TypeId} {sz fuel : Nat} {cs : List Value} {y : DataW H × List MemPlace} (ht : P.underlying t = some (.slice e)) (hc : P.cellsOf e = sz) (hsz : 0 < sz) {Q : α → List Value → Prop} {size : α → Nat}
    (each : ∀ n cs' y, n < fuel → cs'.length = sz → DataW.trod enc P W 0 (fun _ => true) true n e cs' = some y → ∃ x, Q x cs' ∧ size x ≤ Rows.uptoBulk y.1) (h : DataW.trod enc P W 0 (fun _ => true) true fuel t cs = some y) :
    ∃ (v : Value) (l : List α) (css : List (List Value)), cs = [v] ∧ RowIs W v l.length sz css.flatten ∧ Two Q l css ∧ (∀ c ∈ css, c.length = sz) ∧ (l.map size).sum + 1 ≤ Rows.uptoBulk y.1 := by
  rcases DataW.trod_slice ht h with ⟨rfl, rfl⟩ | ⟨a, len, cap, elems, rest, n, hf, rfl, rfl, _, _, _, hlen, hel, _, _⟩
  · exact ⟨_, [], [], rfl, ⟨by simp, .inl ⟨rfl, _, _, rfl⟩⟩, trivial, by simp, by simp [Rows.uptoBulk]⟩
  · subst hc
    obtain ⟨l, css, e1, e2, e3, e4, e5⟩ := Wu (a := a) rfl (each n · · (by omega)) elems 0 (fun j hj => by rw [Nat.zero_add]; exact hel j (by omega))
    have hfl : css.flatten.length = l.length * P.cellsOf e := by
      rw [← e2.len, List.length_flatten]
      clear e5 e2 e1
      induction css with
      | nil => simp
      | cons c r ih => simp only [List.map_cons, List.sum_cons, List.length_cons]; rw [ih (fun c hc => e4 c (by simp [hc])), e4 c (by simp), Nat.add_mul]; omega
    refine ⟨_, l, css, rfl, ⟨hfl, ?_⟩, e2, e4, by simp only [Rows.uptoBulk]; omega⟩
    by_cases hn : l.length = 0
    · exact .inl ⟨hn, some a, cap, by rw [← hlen, ← e1, hn]⟩
    · right
      have hp : 0 < css.flatten.length := by rw [hfl]; exact Nat.mul_pos (by omega) hsz
      have hsp := X27 (a := a) (by have := e5 0 _ (List.getElem?_eq_getElem hp); rw [Nat.zero_mul] at this; exact this)
      obtain ⟨b, o, sp⟩ := a
      simp only at hsp; subst hsp
      refine ⟨b, o, cap, by rw [← hlen, ← e1], fun j u hu => ?_⟩
      have := e5 j u hu
      rw [Nat.zero_mul, Nat.zero_add] at this
      rw [← this]; congr 1
      unfold Addr.add; split <;> simp_all
end
section
variable {H : Type} {enc : TypeId × Value → H} {W : World}
theorem I2 (s : ByteArray) : Value.string s = S s.data.toList := by simp [S]
theorem Q1h (l : List DepT) : (l.map DepT.size).sum = argsSize l := by
  induction l with
  | nil => rfl
  | cons d r ih => simp only [List.map_cons, List.sum_cons, argsSize, ih]
end
end Go.Proofs.YtlfjokcbkopfeaaGreatDoor
end
section
namespace Go.Proofs.YtlfjokcbkopfeaaGreatDoor
open Go Go.RowKit
set_option linter.unusedSimpArgs false
set_option linter.unusedVariables false
namespace Sv
def D0 (W : World) : Nat → Option Obj := fun b => W.heap[b]?
theorem Q8y (W : World) : Fro (D0 W) W := fun _ _ e => e
theorem Q0y {w : World} {b k : Nat} {v : Value} (h : w.cell? ⟨b, k, none⟩ = some v) : ∃ cs e fr, w.heap[b]? = some (.cells cs e fr) ∧ cs[k]? = some v := by
  unfold World.cell? at h
  split at h
  · rename_i c e fr hb
    exact ⟨c, e, fr, hb, by simpa using h⟩
  · cases h
theorem Ng {α : Type} [Inhabited α] {R : α → List Value → Prop} : ∀ {l : List α} {m : List (List Value)}, Two R l m → ∀ {i}, i < l.length → R (Go.Proofs.YtlfjokcbkopfeaaGreatDoor.nth l i) (Go.Proofs.YtlfjokcbkopfeaaGreatDoor.nth m i)
  | [], [], _, i, h => by simp at h
  | _ :: _, [], h, _, _ => h.elim
  | a :: l, b :: m, h, 0, _ => h.1
  | a :: l, b :: m, h, i + 1, hi => Ng (l := l) (m := m) h.2 (by simpa using hi)
section
variable {H : Type} {enc : TypeId × Value → H} {P : Program} {W : World}
theorem Ji {α : Type} [Inhabited α] {t e : TypeId} {sz fuel : Nat} {cs : List Value} {y : DataW H × List MemPlace} (ht : P.underlying t = some (.slice e)) (hc : P.cellsOf e = sz) (hsz : 0 < sz) {f : α → AV} {size : α → Nat} (wrap : List Value → Value)
    (hw : ∀ cs', cs'.length = sz → (∀ c ∈ cs', c.oneCell' = true) → (wrap cs').cells.toList = cs')
    (each : ∀ n cs' y, n < fuel → cs'.length = sz → DataW.trod enc P W 0 (fun _ => true) true n e cs' = some y → ∃ x, (VR (ofF (D0 W)) (f x) (wrap cs') ∧ ∀ c ∈ cs', c.oneCell' = true) ∧ size x ≤ Rows.uptoBulk y.1) (h : DataW.trod enc P W 0 (fun _ => true) true fuel t cs = some y) :
    ∃ (v : Value) (l : List α), cs = [v] ∧ VR (ofF (D0 W)) (Ai sz f l) v ∧ (l.map size).sum + 1 ≤ Rows.uptoBulk y.1 := by
  obtain ⟨v, l, css, rfl, hr, h2, h4, h5⟩ := Q6r (Q := fun x cs' => VR (ofF (D0 W)) (f x) (wrap cs') ∧ ∀ c ∈ cs', c.oneCell' = true) ht hc hsz each h
  refine ⟨v, l, rfl, ?_, h5⟩
  have hshape : v = .slice none 0 0 ∨ ∃ a n c, v = .slice (some a) n c ∧ n ≤ c := by
    rcases DataW.trod_slice ht h with ⟨e, _⟩ | ⟨a, len, cap, _, _, _, _, e, _, _, hle, _⟩
    · left; simpa using e
    · right; exact ⟨a, len, cap, by simpa using e, hle⟩
  unfold Ai
  simp only [VR]
  have hlen := h2.len
  refine ⟨fun i => wrap (nth css i), fun i hi => (Ng h2 hi).1, ?_⟩
  rcases hr.2 with ⟨h0, a, c, rfl⟩ | ⟨b, o, c, rfl, hcell⟩
  · refine .inl ⟨h0, ?_⟩
    rcases hshape with e | ⟨a', n, c', e, _⟩
    · exact .inl e
    · cases e; exact .inr ⟨a', c, rfl⟩
  · have hnc : l.length ≤ c := by
      rcases hshape with e | ⟨a', n, c', e, hle⟩
      · cases e
      · cases e; exact hle
    refine .inr ⟨b, o, c, rfl, hnc, fun i hi => ?_⟩
    have hmem : nth css i ∈ css := W5 (by omega)
    have hwr := hw _ (h4 _ hmem) (Ng h2 hi).2
    have hat : ∀ j, j < sz → css.flatten[i * sz + j]? = (nth css i)[j]? := fun j hj => O2 (sz := sz) css i j h4 (by omega) hj
    refine ⟨by rw [← Array.length_toList, hwr]; exact h4 _ hmem, ?_⟩
    rw [hwr]
    have hl := h4 _ hmem
    obtain ⟨cs0, e0, fr0, k1, _⟩ := Q0y (hcell (i * sz + 0) _ ((hat 0 hsz).trans (List.getElem?_eq_getElem (show 0 < (nth css i).length by omega))))
    refine ⟨cs0, e0, fr0, k1, fun j u hu => ?_⟩
    have hj : j < sz := by have := (List.getElem?_eq_some_iff.1 hu).1; omega
    obtain ⟨cs1, e1, fr1, k2, k3⟩ := Q0y (hcell (i * sz + j) u ((hat j hj).trans hu))
    rw [k1] at k2; cases k2
    exact ⟨by rw [Nat.add_assoc]; exact k3, (Ng h2 hi).2 u (List.mem_of_getElem? hu)⟩
set_option maxRecDepth 100000 in
theorem Wv : ∀ (fuel : Nat) (cs : List Value) (x : DataW H × List MemPlace), DataW.trod enc Tryz.prog W 0 (fun _ => true) true fuel 25 cs = some x → ∃ d : DepT, (VR (ofF (D0 W)) (A9 d) (.agg cs.toArray) ∧ ∀ c ∈ cs, c.oneCell' = true) ∧ d.size ≤ Rows.uptoBulk x.1 := by
  intro fuel
  induction fuel using Nat.strongRecOn with
  | ind fuel ih =>
  intro cs x h
  obtain ⟨xs, n, hf, rfl, hl, hxs, hfs⟩ := DataW.trod_struct Tryz.underlying25 h
  have hl' : cs.length = 5 := hl.trans (by kernel_rfl)
  match cs, hl' with
  | [c0, c1, c2, c3, c4], _ =>
  match xs, hxs with
  | [y0, y1, y2, y3, y4], _ =>
  have g0 : DataW.trod enc Tryz.prog W 0 (fun _ => true) true n 3 (([c0, c1, c2, c3, c4].drop 0).take (Tryz.prog.cellsOf 3)) = some y0 := hfs 0 _ rfl
  have g1 : DataW.trod enc Tryz.prog W 0 (fun _ => true) true n 9 (([c0, c1, c2, c3, c4].drop 1).take (Tryz.prog.cellsOf 9)) = some y1 := hfs 1 _ rfl
  have g2 : DataW.trod enc Tryz.prog W 0 (fun _ => true) true n 3 (([c0, c1, c2, c3, c4].drop 2).take (Tryz.prog.cellsOf 3)) = some y2 := hfs 2 _ rfl
  have g3 : DataW.trod enc Tryz.prog W 0 (fun _ => true) true n 9 (([c0, c1, c2, c3, c4].drop 3).take (Tryz.prog.cellsOf 9)) = some y3 := hfs 3 _ rfl
  have g4 : DataW.trod enc Tryz.prog W 0 (fun _ => true) true n 23 (([c0, c1, c2, c3, c4].drop 4).take (Tryz.prog.cellsOf 23)) = some y4 := hfs 4 _ rfl
  have k1 : Tryz.prog.cellsOf 3 = 1 := by kernel_rfl
  have k2 : Tryz.prog.cellsOf 9 = 1 := by kernel_rfl
  have k3 : Tryz.prog.cellsOf 23 = 1 := by kernel_rfl
  have k4 : Tryz.prog.cellsOf 25 = 5 := by kernel_rfl
  rw [k1] at g0 g2; rw [k2] at g1 g3; rw [k3] at g4
  simp only [List.drop_zero, List.drop_succ_cons, List.take_succ_cons, List.take_zero] at g0 g1 g2 g3 g4
  obtain ⟨k, e0, rfl, _⟩ := DataW.trod_int Tryz.underlying3 g0
  obtain ⟨nm, e1, rfl, _⟩ := DataW.trod_string Tryz.underlying9 g1
  obtain ⟨op, e2, rfl, _⟩ := DataW.trod_int Tryz.underlying3 g2
  obtain ⟨ev, e3, rfl, _⟩ := DataW.trod_string Tryz.underlying9 g3
  obtain ⟨v, l, e4, hr, hb⟩ := Ji (f := A9) (size := DepT.size) Tryz.underlying23 k4 (by omega) (fun cs => .agg cs.toArray) (fun cs' _ _ => by simp [Value.cells]) (fun n' cs' y hn _ hy => ih n' (by omega) cs' y hy) g4
  have hsl : v.oneCell' = true := by
    have hr' := hr
    unfold Ai at hr'
    simp only [VR] at hr'
    obtain ⟨u, _, h0 | ⟨b, o, c, rfl, _⟩⟩ := hr'
    · rcases h0 with ⟨_, rfl | ⟨a, c, rfl⟩⟩ <;> rfl
    · rfl
  simp only [List.cons.injEq, and_true] at e0 e1 e2 e3 e4
  subst e0 e1 e2 e3 e4
  refine ⟨.mk k nm.data.toList op ev.data.toList l, ⟨?_, ?_⟩, ?_⟩
  · refine X1r _ _ _ ?_
    simp only [VR]
    refine ⟨_, .cons (by simp only [VR]; rfl) (.cons (by simp only [VR]; exact I2 nm) (.cons (by simp only [VR]; rfl) (.cons (by simp only [VR]; exact I2 ev) (.cons hr .nil)))), rfl⟩
  · intro c hc
    simp only [List.mem_cons, List.not_mem_nil, or_false] at hc
    rcases hc with rfl | rfl | rfl | rfl | rfl
    · rfl
    · rfl
    · rfl
    · rfl
    · exact hsl
  · rw [Q1h] at hb
    simp only [DepT.size, List.map_cons, List.map_nil, Rows.uptoBulk, Rows.uptoBulkAll]
    omega
set_option maxRecDepth 100000 in
theorem open_depV {r : Reach} {b0 : Nat} {v : Value} {d : DataW H} {p : List MemPlace} (hv : Value.okWide Tryz.prog W r b0 25 v) (h : DataW.Trod enc Tryz.prog W 0 (fun _ => true) true 25 v d p) :
    ∃ t : DepT, VR (ofF (D0 W)) (A9 t) v ∧ t.size ≤ Rows.uptoBulk d := by
  obtain ⟨cs, rfl, _⟩ := Go.WideShapes.okWide_struct Tryz.underlying25 hv
  obtain ⟨fuel, hf⟩ := h
  obtain ⟨t, h1, h2⟩ := Wv fuel _ _ hf
  exact ⟨t, by have := h1.1; simpa [Value.cells] using this, h2⟩
end
theorem FnV.calls {P : Program} {f : Nat} {al : List AV} {W : World} {vs : List Value} (h : FnV P f al (.bool true)) (hv : VRl (ofF (D0 W)) al vs) : Calls P f vs.toArray W (Ret fun v w' => v = .bool true ∧ Below W.heap.size W w') :=
  (h (D0 W) W vs (Q8y W) hv).mono fun e w' hh => by
    obtain ⟨v, he, hb, F', _, _, _, k⟩ := hh
    simp only [VR] at k
    exact ⟨v, he, k, hb⟩
end Sv
end Go.Proofs.YtlfjokcbkopfeaaGreatDoor
end
