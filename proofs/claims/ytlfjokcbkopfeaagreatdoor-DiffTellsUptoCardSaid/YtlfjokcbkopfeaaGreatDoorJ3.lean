/- The texts Pool4, Pool5, Pool6, Pool7, Prov1, CompI, Prov2, Prov3, Prov4, Prov5, Prov6, Prov7, Prov8, Evr2, Evr3, Evr4, Evr5, Evr6, Ref7a, PoolP, Awake7, ProvP of the proof, joined. Each says at its theorems what it proves. -/
import Derived.Test.YtlfjokcbkopfeaaGreatDoorJ2
import Derived.Sort.OwnSortedInts
set_option linter.unusedSimpArgs false
set_option linter.unusedVariables false
section
namespace Go.Proofs.YtlfjokcbkopfeaaGreatDoor
open Go Go.RowKit
namespace Sv
attribute [local irreducible] SW SO Bg
theorem X1h : Am Tryz.prog 11 := Av Tryz.func11 (by kernel_rfl) rfl
theorem Q99 : Am Tryz.prog 48 := Av Tryz.func48 (by kernel_rfl) rfl
theorem Q98 : Am Tryz.prog 49 := Av Tryz.func49 (by kernel_rfl) rfl
noncomputable def A8 (r : RepoT) : AV := .agg [.str r.name, .int .i64 r.prio, .bool r.inst, .nils]
noncomputable def Bb (k : PkgT × Int) : AV := .agg [.str k.1.name, .str k.1.evr, .str k.1.arch, .str k.1.vendor, Dj k.1.provides, Dj k.1.requires, Dj k.1.pre, Dj k.1.conflicts, Dj k.1.obsoletes, Dj k.1.recommends, Dj k.1.supplements, Ct k.1.files, .int .i64 k.2]
structure PoolT where
 kind : Int
 repos : List RepoT
 all : List (PkgT × Int)
 deriving Inhabited
def Iq (l : List PkgT) : Int := match l.find? (fun p => decide (C0 p ≠ 0)) with
 | some p => C0 p
 | none => 0
def B8 (st : PoolT) (r : RepoT) : Int :=
 if Bh r.name = false ∨ st.repos.any (fun o => decide (o.name = r.name)) = true then 66
 else if r.inst = true ∧ st.repos.any (fun o => o.inst) = true then 67
 else if 8 ≤ st.repos.length ∨ 200 < st.all.length + r.pkgs.length then 68
 else Iq r.pkgs
def As (st : PoolT) (r : RepoT) (i : Nat) : List (PkgT × Int) := st.all ++ (r.pkgs.take i).map fun p => (p, (st.repos.length : Int))
def B4 (st : PoolT) (r : RepoT) : PoolT := if B8 st r = 0 then ⟨st.kind, st.repos ++ [r], As st r r.pkgs.length⟩ else st
def Mb (l : List (PkgT × Int)) (s : List UInt8) : List Nat := (List.range l.length).filter fun i => decide ((nth l i).1.name = s)
noncomputable def A7 (l : List (PkgT × Int)) (s : List UInt8) : List AV := (Mb l s).map fun (i : Nat) => AV.int .i64 (i : Int)
theorem Ia {st : PoolT} {r : RepoT} {e : Int} (h : B8 st r = e) (he : e ≠ 0) : B4 st r = st := by unfold B4; rw [if_neg (by rw [h]; exact he)]
theorem Yx {l : List PkgT} (h : ∀ j, j < l.length → C0 (nth l j) = 0) : Iq l = 0 := by
 unfold Iq
 rw [List.find?_eq_none.2]
 intro x hx
 obtain ⟨j, hj, rfl⟩ := List.getElem_of_mem hx
 have := h j hj
 simpa [nth, hj] using this
theorem R9 : ∀ {l : List PkgT} {i : Nat}, i < l.length → (∀ j, j < i → C0 (nth l j) = 0) → C0 (nth l i) ≠ 0 → Iq l = C0 (nth l i)
 | [], _, h, _, _ => by simp at h
 | x :: r, 0, _, _, h => by
  have h : C0 x ≠ 0 := h
  unfold Iq; rw [List.find?_cons_of_pos (by simpa using h)]; rfl
 | x :: r, i + 1, hi, h, hp => by
  have h0 : C0 x = 0 := h 0 (by omega)
  have := R9 (l := r) (i := i) (by simpa using hi) (fun j hj => h (j + 1) (by omega)) hp
  unfold Iq at this ⊢
  rw [List.find?_cons_of_neg (by simp [h0])]; exact this
theorem Q8a {st : PoolT} {r : RepoT} {i : Nat} (h : i < r.pkgs.length) : As st r (i + 1) = As st r i ++ [(nth r.pkgs i, (st.repos.length : Int))] := by
 unfold As
 rw [List.take_add_one, List.getElem?_eq_getElem h, List.map_append, List.append_assoc]
 simp [nth, h]
theorem Q8b {st : PoolT} {r : RepoT} {i : Nat} : (As st r i).length ≤ st.all.length + i := by unfold As; simp; omega
theorem Xb (l : List (PkgT × Int)) (k : PkgT × Int) : Dm (A7 l) k.1.name (A7 l k.1.name ++ [.int .i64 (l.length : Int)]) = A7 (l ++ [k]) := by
 funext s
 have e : Mb (l ++ [k]) s = Mb l s ++ (if k.1.name = s then [l.length] else []) := by
  unfold Mb
  rw [List.length_append, List.length_singleton, List.range_succ, List.filter_append]
  congr 1
  ·refine List.filter_congr fun i hi => ?_
   have : i < l.length := by simpa using hi
   have : nth (l ++ [k]) i = nth l i := by simp [nth, List.getElem?_append_left this]
   rw [this]
  ·have : nth (l ++ [k]) l.length = k := by simp [nth]
   by_cases h : k.1.name = s <;> simp [this, h]
 unfold Dm A7
 rw [e]
 by_cases h : s = k.1.name
 ·subst h; rw [if_pos rfl, if_pos rfl, List.map_append]; rfl
 ·rw [if_neg h, if_neg (fun q => h q.symm), List.append_nil]
theorem Q7i (l : List (PkgT × Int)) (s : List UInt8) : (A7 l s).length ≤ l.length := by
 unfold A7 Mb
 rw [List.length_map]
 exact Nat.le_trans (List.length_filter_le _ _) (by simp)
set_option maxHeartbeats 400000 in
set_option maxRecDepth 100000 in
theorem Q46 (l : List RepoT) (a : AV) (p : RepoT → Bool) (hl : l.length ≤ 4611686018427387904) (ha : ∀ i, i < l.length → FunV Tryz.prog a [(.agg [(.str ((nth l i).name)), (.int .i64 ((nth l i).prio)), (.bool ((nth l i).inst)), .nils])] (.bool (p (nth l i)))) :
  FnV Tryz.prog 96 [(Ai 4 A8 l), (.clo a)] (.int .i64 (Cj p l)) := by
 refine A1 [.tmp 4] Tryz.func96 rfl Tryz.ntmps96 rfl rfl (fun B F hF => ?_)
 refine Aa [] [0, 1] ?_
 refine Ab ?_
 refine Aa [] [0, 1, 7, 8] ?_
 refine A0 ?_
 refine Bq (fun g y => ∃ (i : Nat), i ≤ l.length ∧ (∀ j, j < i → p (nth l j) = false) ∧ y = ⟨[(0, (Ai 4 A8 l)), (1, (.clo a)), (7, (.int .i64 ((l.length : Int)))), (8, (.int .i64 ((i : Int))))], [], 0⟩ ∧ g = l.length - i) [0, 1, 7, 8] 0 _ (by omega) ⟨0, (by omega), (by exact fun j hj => by omega), (by kernel_rfl), rfl⟩ ?_
 rintro g1 y1 ⟨i, f1_1, f1_2, rfl, rfl⟩
 refine Aa [] [0, 1, 7, 8, 9] ?_
 refine Ab ?_
 refine A2 (p := (i : Int) < (l.length : Int)) (by kernel_rfl) (fun c1 => ?_) (fun c1 => ?_)
 ·refine Ag ?_
  refine Ab ?_
  refine A0 ?_
  refine Aa [] [0, 1, 5, 7, 8] ?_
  refine Ab ?_
  refine Ar ?_
  refine Bv 5 0 [] [0, 1, 5, 7, 8, 11, 15] [] hk0 v0 (cc 3 (p := (0 ≤ (i : Int) ∧ i < l.length)) (by first | omega | (simp; omega) | (simp; done) | (intros; simp_all; omega) | (intros; simp_all; done)) <| c0) ?_
  refine G3 (s' := [(0, (Ai 4 A8 l)), (1, (.clo a)), (5, (.int .i64 ((i : Int)))), (7, (.int .i64 ((l.length : Int)))), (8, (.int .i64 ((i : Int)))), (11, (.clo a)), (15, (.agg [(.str ((nth l i).name)), (.int .i64 ((nth l i).prio)), (.bool ((nth l i).inst)), .nils])), (16, (.bool (p (nth l i))))]) (a := (.clo a)) (al := [(.agg [(.str ((nth l i).name)), (.int .i64 ((nth l i).prio)), (.bool ((nth l i).inst)), .nils])]) (r := (.bool (p (nth l i)))) (by kernel_rfl) (by kernel_rfl) (by kernel_rfl) (by kernel_rfl) (by kernel_rfl) ((ha i (by omega)).clo) (by kernel_rfl) ?_
  refine B2 ?_
  refine A3 (q := p (nth l i)) (by kernel_rfl) (fun c2 => ?_) (fun c2 => ?_)
  ·try simp only [Bool.and_eq_true, Bool.or_eq_true, Bool.and_eq_false_iff, Bool.or_eq_false_iff, Bool.not_eq_true', Bool.not_eq_false', decide_eq_true_eq, decide_eq_false_iff_not] at c2
   refine Aa [] [4] ?_
   refine Af ?_
   refine RK wR [(.int .i64 ((i : Int)))] ?_
   exact Same.of_eq (by rw [Js (by omega) f1_2 (by simp_all)]; rfl)
  ·try simp only [Bool.and_eq_true, Bool.or_eq_true, Bool.and_eq_false_iff, Bool.or_eq_false_iff, Bool.not_eq_true', Bool.not_eq_false', decide_eq_true_eq, decide_eq_false_iff_not] at c2
   refine Ag ?_
   refine Ar ?_
   refine Aw 0 [] [0, 1, 7, 8] [] hk0 v0 (cc 0 (p := (-9223372036854775808 ≤ (i : Int) + 1 ∧ (i : Int) + 1 ≤ 9223372036854775807)) (by first | omega | (simp; omega) | (simp; done) | (intros; simp_all; omega) | (intros; simp_all; done)) <| c0) ?_
   refine ⟨by kernel_rfl, _, ?_, i + 1, ?_, ?_, (by kernel_rfl), rfl⟩
   ·omega
   ·omega
   ·intro j hj
    by_cases h : j = i
    ·subst h; simp_all
    ·exact f1_2 j (by omega)
 ·refine Bj ?_
  refine Aa [] [4] ?_
  refine Af ?_
  refine RK wR [(.int .i64 (-1))] ?_
  exact Same.of_eq (by rw [Jr (fun j hj => f1_2 j (by omega))]; rfl)
set_option maxHeartbeats 400000 in
set_option maxRecDepth 100000 in
theorem Vc (l : List RepoT) (a : AV) (p : RepoT → Bool) (hl : l.length ≤ 4611686018427387904) (ha : ∀ i, i < l.length → FunV Tryz.prog a [(.agg [(.str ((nth l i).name)), (.int .i64 ((nth l i).prio)), (.bool ((nth l i).inst)), .nils])] (.bool (p (nth l i)))) :
  FnV Tryz.prog 47 [(Ai 4 A8 l), (.clo a)] (.bool (l.any p)) := by
 refine A1 [.tmp 4] Tryz.func47 rfl Tryz.ntmps47 rfl rfl (fun B F hF => ?_)
 refine Aa [] [0, 1] ?_
 refine Ad [] [4] [] (hk 2 Q9n (Q46 l a p hl ha) <| hk0) v0 c0 ?_
 refine Af ?_
 refine RK wR [(.bool (decide (0 ≤ (Cj p l))))] ?_
 exact Same.of_eq (by simp only [Ah]; rw [K2])
set_option maxHeartbeats 400000 in
set_option maxRecDepth 100000 in
theorem Q4m (o r : RepoT) :
  FnV Tryz.prog 48 [(.agg [(.str o.name), (.int .i64 o.prio), (.bool o.inst), .nils]), (.fp (.agg [(.str r.name), (.int .i64 r.prio), (.bool r.inst), (Ai 12 Aq r.pkgs)]))] (.bool (decide (o.name = r.name))) := by
 refine A1 [.tmp 3] Tryz.func48 rfl Tryz.ntmps48 rfl rfl (fun B F hF => ?_)
 refine Ad [] [1, 2] [(1, 2)] hk0 v0 c0 ?_
 refine Aa [] [3] ?_
 refine Af ?_
 refine RK wR [(.bool (decide (o.name = r.name)))] ?_
 exact Same.of_eq (by first | rfl | (simp only [Ah]; simp_all))
set_option maxHeartbeats 400000 in
set_option maxRecDepth 100000 in
theorem Q8f (o : RepoT) :
  FnV Tryz.prog 49 [(.agg [(.str o.name), (.int .i64 o.prio), (.bool o.inst), .nils])] (.bool o.inst) := by
 refine A1 [.tmp 2] Tryz.func49 rfl Tryz.ntmps49 rfl rfl (fun B F hF => ?_)
 refine Ad [] [1] [(1, 1)] hk0 v0 c0 ?_
 refine Aa [] [2] ?_
 refine Af ?_
 refine RK wR [(.bool o.inst)] ?_
 exact Same.of_eq (by first | rfl | (simp only [Ah]; simp_all))
set_option maxHeartbeats 1000000 in
set_option maxRecDepth 100000 in
theorem X44 (st : PoolT) (r : RepoT) (hr : st.repos.length ≤ 8) (ha : st.all.length ≤ 200) (hn : r.name.length ≤ 4194304) (hpl : r.pkgs.length ≤ 4194304) (hp : ∀ i, i < r.pkgs.length → (nth r.pkgs i).size ≤ 4194304) :
  Gk Tryz.prog 11 [(.ptr 0 0), (.agg [(.str r.name), (.int .i64 r.prio), (.bool r.inst), (Ai 12 Aq r.pkgs)])] [(0, (.row [(.int .i64 st.kind), (.own 1), (.own 2), (.map 3)] 92)), (1, (.grow (st.repos.map A8) 41 4)), (2, (.grow (st.all.map Bb) 97 13)), (3, (.mm (A7 st.all) none 3 1))] 4 (.int .i64 (B8 st r)) [(0, (.row [(.int .i64 ((B4 st r).kind)), (.own 1), (.own 2), (.map 3)] 92)), (1, (.grow ((B4 st r).repos.map A8) 41 4)), (2, (.grow ((B4 st r).all.map Bb) 97 13)), (3, (.mm (A7 (B4 st r).all) none 3 1))] := by
 have hml : (st.repos.map A8).length = st.repos.length := List.length_map _
 have hma : (st.all.map Bb).length = st.all.length := List.length_map _
 refine Nc [.tmp 4] Tryz.func11 rfl Tryz.ntmps11 rfl rfl (by kernel_rfl) (by kernel_rfl) (by kernel_rfl) (fun B F hF => ?_)
 refine Aa [] [0, 3] ?_
 refine Ab ?_
 refine A0 ?_
 refine Aa [] [0, 3, 10] ?_
 refine D6 (by kernel_rfl) ?_
 refine Ab ?_
 refine Ar ?_
 obtain ⟨b2, hb2⟩ : ∃ b, b = (!(Bh r.name)) := ⟨_, rfl⟩
 refine Bv (CS := [(6, ((!b2) = true → (!b2) = true)), (7, ((!b2) = true → (!b2) = true)), (8, ((!b2) = true → (!b2) = true))]) 10 0 [19, 20, 21, 22, 23] [0, 3, 18, 22, 23] [] (hk 2 Mr (P2 r.name (by omega)) <| hk0) (vk 5 18 (a := .bool (!(Bh r.name))) (b := .bool b2) (Imp.of_eq (by rw [hb2])) <| v0) (by refine cc _ ?_ <| cc _ ?_ <| cc _ ?_ c0 <;> first | omega | (simp; omega) | (simp; done) | (intros; simp_all; omega) | (intros; simp_all; done)) ?_
 refine Tt (s' := [(0, (.ptr 0 0)), (3, (.ptr 4 0)), (18, (.bool b2)), (22, (.cond (!b2) (.own 1))), (23, (.cond (!b2) (.fn 48 [] [(.ptr 4 0)]))), (24, (.cond (!b2) (.bool (st.repos.any (fun o => decide (o.name = r.name))))))]) (q := !b2) (al := [(.own 1), (.fn 48 [] [(.ptr 4 0)])]) (al' := [(.row 4 (st.repos.map A8).length (fun ix => (st.repos.map A8).getD ix Bl)), (.fn 48 [] [(.fp (.agg [(.str r.name), (.int .i64 r.prio), (.bool r.inst), (Ai 12 Aq r.pkgs)]))])]) (h' := [(0, (.row [(.int .i64 st.kind), (.own 1), (.own 2), (.map 3)] 92)), (2, (.grow (st.all.map Bb) 97 13)), (3, (.mm (A7 st.all) none 3 1))]) (r := (.bool (st.repos.any (fun o => decide (o.name = r.name))))) (by kernel_rfl) (by exact Zk) (by kernel_rfl) (Oo (some ((!b2) = true ∧ (!b2) = true)) (by kernel_rfl) fun cg => hold (by first | omega | (simp; omega) | (simp; done) | (intros; simp_all; omega) | (intros; simp_all; done))) (by kernel_rfl) (fun cg => (Vc st.repos (.fn 48 [] [.fp (.agg [(.str r.name), (.int .i64 r.prio), (.bool r.inst), (Ai 12 Aq r.pkgs)])]) (fun o => decide (o.name = r.name)) (by omega) (fun i hi => FunV.of (by exact Q99) (Q4m (nth st.repos i) r))).of_args (ImpL.cons (Imp.list (f := A8) (List.length_map _)) (ImpL.cons (Imp.clo (by kernel_rfl)) ImpL.nil))) rfl (by kernel_rfl) ?_
 obtain ⟨b3, hb3⟩ : ∃ b, b = (b2 || (st.repos.any (fun o => decide (o.name = r.name)))) := ⟨_, rfl⟩
 refine Aw 11 [] [0, 3, 13] [] hk0 (vk 12 25 (a := .bool (b2 || (st.repos.any (fun o => decide (o.name = r.name))))) (b := .bool b3) (Imp.of_eq (by rw [hb3])) <| v0) (cc 11 (p := (b2 = false → (!b2) = true)) (by first | omega | (simp; omega) | (simp; done) | (intros; simp_all; omega) | (intros; simp_all; done)) <| c0) ?_
 refine A3 (q := b3) (by kernel_rfl) (fun c1 => ?_) (fun c1 => ?_)
 ·subst hb3 hb2
  try simp only [Bool.and_eq_true, Bool.or_eq_true, Bool.and_eq_false_iff, Bool.or_eq_false_iff, Bool.not_eq_true', Bool.not_eq_false', decide_eq_true_eq, decide_eq_false_iff_not] at c1
  refine Aa [] [4] ?_
  refine Af ?_
  refine E4 (.inl rfl) (al := [(.int .i64 66)]) (by kernel_rfl) ?_ ((by kernel_rfl : Dk 4 _ = some [(0, (.row [(.int .i64 st.kind), (.own 1), (.own 2), (.map 3)] 92)), (1, (.grow (st.repos.map A8) 41 4)), (2, (.grow (st.all.map Bb) 97 13)), (3, (.mm (A7 st.all) none 3 1))]).trans ?_)
  all_goals have hE : B8 st r = 66 := by unfold B8; rw [if_pos c1]
  ·rw [hE]; rfl
  ·rw [Ia hE (by decide)]
 ·subst hb3 hb2
  try simp only [Bool.and_eq_true, Bool.or_eq_true, Bool.and_eq_false_iff, Bool.or_eq_false_iff, Bool.not_eq_true', Bool.not_eq_false', decide_eq_true_eq, decide_eq_false_iff_not] at c1
  refine Ab ?_
  refine Ar ?_
  refine Bv (CS := [(4, (r.inst = true → r.inst = true)), (5, (r.inst = true → r.inst = true)), (6, (r.inst = true → r.inst = true))]) 7 0 [30, 31, 32, 33] [0, 3, 29, 33] [] hk0 v0 (by refine cc _ ?_ <| cc _ ?_ <| cc _ ?_ c0 <;> first | omega | (simp; omega) | (simp; done) | (intros; simp_all; omega) | (intros; simp_all; done)) ?_
  refine Tt (s' := [(0, (.ptr 0 0)), (3, (.ptr 4 0)), (29, (.bool r.inst)), (33, (.cond r.inst (.own 1))), (34, (.cond r.inst (.bool (st.repos.any (fun o => o.inst)))))]) (q := r.inst) (al := [(.own 1), (.fn 49 [] [])]) (al' := [(.row 4 (st.repos.map A8).length (fun ix => (st.repos.map A8).getD ix Bl)), (.fn 49 [] [])]) (h' := [(0, (.row [(.int .i64 st.kind), (.own 1), (.own 2), (.map 3)] 92)), (2, (.grow (st.all.map Bb) 97 13)), (3, (.mm (A7 st.all) none 3 1)), (4, (.row [(.str r.name), (.int .i64 r.prio), (.bool r.inst), (Ai 12 Aq r.pkgs)] 41))]) (r := (.bool (st.repos.any (fun o => o.inst)))) (by kernel_rfl) (by exact Zk) (by kernel_rfl) (Oo (some (r.inst = true)) (by kernel_rfl) fun cg => hold (by first | omega | (simp; omega) | (simp; done) | (intros; simp_all; omega) | (intros; simp_all; done))) (by kernel_rfl) (fun cg => (Vc st.repos (.fn 49 [] []) (fun o => o.inst) (by omega) (fun i hi => FunV.of (by exact Q98) (Q8f (nth st.repos i)))).of_args (ImpL.cons (Imp.list (f := A8) (List.length_map _)) (ImpL.cons (Imp.clo (by kernel_rfl)) ImpL.nil))) rfl (by kernel_rfl) ?_
  refine Aw 8 [] [0, 3, 26] [] hk0 v0 (cc 8 (p := (r.inst = true → r.inst = true)) (by first | omega | (simp; omega) | (simp; done) | (intros; simp_all; omega) | (intros; simp_all; done)) <| c0) ?_
  refine A3 (q := r.inst && (st.repos.any (fun o => o.inst))) (by kernel_rfl) (fun c2 => ?_) (fun c2 => ?_)
  ·try simp only [Bool.and_eq_true, Bool.or_eq_true, Bool.and_eq_false_iff, Bool.or_eq_false_iff, Bool.not_eq_true', Bool.not_eq_false', decide_eq_true_eq, decide_eq_false_iff_not] at c2
   refine Aa [] [4] ?_
   refine Af ?_
   refine E4 (.inl rfl) (al := [(.int .i64 67)]) (by kernel_rfl) ?_ ((by kernel_rfl : Dk 4 _ = some [(0, (.row [(.int .i64 st.kind), (.own 1), (.own 2), (.map 3)] 92)), (1, (.grow (st.repos.map A8) 41 4)), (2, (.grow (st.all.map Bb) 97 13)), (3, (.mm (A7 st.all) none 3 1))]).trans ?_)
   all_goals have hE : B8 st r = 67 := by unfold B8; rw [if_neg (by simp only [not_or]; simp_all), if_pos (by simp_all)]
   ·rw [hE]; rfl
   ·rw [Ia hE (by decide)]
  ·try simp only [Bool.and_eq_true, Bool.or_eq_true, Bool.and_eq_false_iff, Bool.or_eq_false_iff, Bool.not_eq_true', Bool.not_eq_false', decide_eq_true_eq, decide_eq_false_iff_not] at c2
   refine Da (fun y => y = ⟨[(0, (.ptr 0 0)), (3, (.ptr 4 0)), (36, (.bool (decide ((8 : Int) ≤ ((st.repos.map A8).length : Int)) || decide ((200 : Int) < ((st.all.map Bb).length : Int) + (r.pkgs.length : Int)))))], [(0, (.row [(.int .i64 st.kind), (.own 1), (.own 2), (.map 3)] 92)), (1, (.grow (st.repos.map A8) 41 4)), (2, (.grow (st.all.map Bb) 97 13)), (3, (.mm (A7 st.all) none 3 1)), (4, (.row [(.str r.name), (.int .i64 r.prio), (.bool r.inst), (Ai 12 Aq r.pkgs)] 41))], 5⟩) [0, 3, 36] 5 (by omega) ?_ ?_
   ·refine Gh (CS := [(8, ((!(decide (8 ≤ ((st.repos.map A8).length : Int)))) = true → (!(decide (8 ≤ ((st.repos.map A8).length : Int)))) = true)), (9, ((!(decide (8 ≤ ((st.repos.map A8).length : Int)))) = true → (!(decide (8 ≤ ((st.repos.map A8).length : Int)))) = true)), (10, ((!(decide (8 ≤ ((st.repos.map A8).length : Int)))) = true → (!(decide (8 ≤ ((st.repos.map A8).length : Int)))) = true)), (11, ((!(decide (8 ≤ ((st.repos.map A8).length : Int)))) = true → (!(decide (8 ≤ ((st.repos.map A8).length : Int)))) = true)), (13, ((!(decide (8 ≤ ((st.repos.map A8).length : Int)))) = true → (!(decide (8 ≤ ((st.repos.map A8).length : Int)))) = true)), (14, ((!(decide (8 ≤ ((st.repos.map A8).length : Int)))) = true → (!(decide (8 ≤ ((st.repos.map A8).length : Int)))) = true)), (15, ((!(decide (8 ≤ ((st.repos.map A8).length : Int)))) = true → ((!(decide (8 ≤ ((st.repos.map A8).length : Int)))) = true ∧ (!(decide (8 ≤ ((st.repos.map A8).length : Int)))) = true) ∧ (-9223372036854775808 ≤ ((st.all.map Bb).length : Int) + (r.pkgs.length : Int) ∧ ((st.all.map Bb).length : Int) + (r.pkgs.length : Int) ≤ 9223372036854775807))), (16, ((!(decide (8 ≤ ((st.repos.map A8).length : Int)))) = true → (!(decide (8 ≤ ((st.repos.map A8).length : Int)))) = true)), (17, ((decide (8 ≤ ((st.repos.map A8).length : Int))) = false → (!(decide (8 ≤ ((st.repos.map A8).length : Int)))) = true))]) [44, 45, 46, 47, 48, 49, 50, 51, 52, 53] [0, 3, 36] [] hk0 v0 (by refine cc _ ?_ <| cc _ ?_ <| cc _ ?_ <| cc _ ?_ <| cc _ ?_ <| cc _ ?_ <| cc _ ?_ <| cc _ ?_ <| cc _ ?_ c0 <;> first | omega | (simp; omega) | (simp; done) | (intros; simp_all; omega) | (intros; simp_all; done)) ?_
    refine ⟨by kernel_rfl, (by kernel_rfl)⟩
   ·rintro y1 rfl
    refine A3 (q := decide ((8 : Int) ≤ ((st.repos.map A8).length : Int)) || decide ((200 : Int) < ((st.all.map Bb).length : Int) + (r.pkgs.length : Int))) (by kernel_rfl) (fun c3 => ?_) (fun c3 => ?_)
    ·try simp only [Bool.and_eq_true, Bool.or_eq_true, Bool.and_eq_false_iff, Bool.or_eq_false_iff, Bool.not_eq_true', Bool.not_eq_false', decide_eq_true_eq, decide_eq_false_iff_not] at c3
     refine Aa [] [4] ?_
     refine Af ?_
     refine E4 (.inl rfl) (al := [(.int .i64 68)]) (by kernel_rfl) ?_ ((by kernel_rfl : Dk 4 _ = some [(0, (.row [(.int .i64 st.kind), (.own 1), (.own 2), (.map 3)] 92)), (1, (.grow (st.repos.map A8) 41 4)), (2, (.grow (st.all.map Bb) 97 13)), (3, (.mm (A7 st.all) none 3 1))]).trans ?_)
     all_goals have hE : B8 st r = 68 := by unfold B8; rw [if_neg (by simp only [not_or]; simp_all), if_neg (by rintro ⟨h1, h2⟩; rw [h1, h2] at c2; simp at c2), if_pos (by omega)]
     ·rw [hE]; rfl
     ·rw [Ia hE (by decide)]
    ·try simp only [Bool.and_eq_true, Bool.or_eq_true, Bool.and_eq_false_iff, Bool.or_eq_false_iff, Bool.not_eq_true', Bool.not_eq_false', decide_eq_true_eq, decide_eq_false_iff_not] at c3
     refine Ag ?_
     refine Ab ?_
     refine Aa [] [0, 3, 56, 57, 58] ?_
     refine A0 ?_
     refine Bq (fun g y => ∃ (i : Nat), i ≤ r.pkgs.length ∧ (∀ j, j < i → C0 (nth r.pkgs j) = 0) ∧ y = ⟨[(0, (.ptr 0 0)), (3, (.ptr 4 0)), (56, (Ai 12 Aq r.pkgs)), (57, (.int .i64 ((r.pkgs.length : Int)))), (58, (.int .i64 ((i : Int))))], [(0, (.row [(.int .i64 st.kind), (.own 1), (.own 2), (.map 3)] 92)), (1, (.grow (st.repos.map A8) 41 4)), (2, (.grow (st.all.map Bb) 97 13)), (3, (.mm (A7 st.all) none 3 1)), (4, (.row [(.str r.name), (.int .i64 r.prio), (.bool r.inst), (Ai 12 Aq r.pkgs)] 41))], 5⟩ ∧ g = r.pkgs.length - i) [0, 3, 56, 57, 58] 5 _ (by omega) ⟨0, (by omega), (by exact fun j hj => by omega), (by kernel_rfl), rfl⟩ ?_
     rintro g1 y1 ⟨i, f1_1, f1_2, rfl, rfl⟩
     refine Aa [] [0, 3, 56, 57, 58, 59] ?_
     refine Ab ?_
     refine A2 (p := (i : Int) < (r.pkgs.length : Int)) (by kernel_rfl) (fun c4 => ?_) (fun c4 => ?_)
     ·refine Ag ?_
      refine Ab ?_
      refine A0 ?_
      refine Ad [] [0, 3, 6, 56, 57, 58] [] hk0 v0 (cc 0 (p := (0 ≤ (i : Int) ∧ i < r.pkgs.length)) (by first | omega | (simp; omega) | (simp; done) | (intros; simp_all; omega) | (intros; simp_all; done)) <| c0) ?_
      refine Ad [] [0, 3, 7, 56, 57, 58] [(0, 6)] (hk 1 Q97 (X43 (nth r.pkgs i) (hp i (by omega))) <| hk0) v0 c0 ?_
      refine Aa [] [0, 3, 7, 56, 57, 58, 65] ?_
      refine Cm (p := (C0 (nth r.pkgs i)) = 0) (by kernel_rfl) (fun c5 => ?_) (fun c5 => ?_)
      ·refine Aa [] [4] ?_
       refine Af ?_
       refine E4 (.inl rfl) (al := [(.int .i64 (C0 (nth r.pkgs i)))]) (by kernel_rfl) ?_ ((by kernel_rfl : Dk 4 _ = some [(0, (.row [(.int .i64 st.kind), (.own 1), (.own 2), (.map 3)] 92)), (1, (.grow (st.repos.map A8) 41 4)), (2, (.grow (st.all.map Bb) 97 13)), (3, (.mm (A7 st.all) none 3 1))]).trans ?_)
       all_goals have hE : B8 st r = C0 (nth r.pkgs i) := by unfold B8; rw [if_neg (by simp only [not_or]; simp_all), if_neg (by rintro ⟨h1, h2⟩; rw [h1, h2] at c2; simp at c2), if_neg (by omega)]; exact R9 (by omega) f1_2 (by assumption)
       ·rw [hE]; rfl
       ·rw [Ia hE (by assumption)]
      ·refine Ag ?_
       refine Ar ?_
       refine Aw 0 [] [0, 3, 56, 57, 58] [] hk0 v0 (cc 0 (p := (-9223372036854775808 ≤ (i : Int) + 1 ∧ (i : Int) + 1 ≤ 9223372036854775807)) (by first | omega | (simp; omega) | (simp; done) | (intros; simp_all; omega) | (intros; simp_all; done)) <| c0) ?_
       refine ⟨by kernel_rfl, _, ?_, i + 1, ?_, ?_, (by kernel_rfl), rfl⟩
       ·omega
       ·omega
       ·intro j hj
        by_cases h : j = i
        ·subst h; simp_all
        ·exact f1_2 j (by omega)
     ·refine Bj ?_
      refine Ab ?_
      refine Aa [] [0, 3, 69, 70, 71] ?_
      refine A0 ?_
      refine Bq (fun g y => ∃ (i : Nat), i ≤ r.pkgs.length ∧ y = ⟨[(0, (.ptr 0 0)), (3, (.ptr 4 0)), (69, (Ai 12 Aq r.pkgs)), (70, (.int .i64 ((r.pkgs.length : Int)))), (71, (.int .i64 ((i : Int))))], [(0, (.row [(.int .i64 st.kind), (.own 1), (.own 2), (.map 3)] 92)), (1, (.grow (st.repos.map A8) 41 4)), (2, (.grow ((As st r i).map Bb) 97 13)), (3, (.mm (A7 (As st r i)) none 3 1)), (4, (.row [(.str r.name), (.int .i64 r.prio), (.bool r.inst), (Ai 12 Aq r.pkgs)] 41))], 5⟩ ∧ g = r.pkgs.length - i) [0, 3, 69, 70, 71] 5 _ (by omega) ⟨0, (by omega), (Eq.trans (b := (⟨[(0, (.ptr 0 0)), (3, (.ptr 4 0)), (69, (Ai 12 Aq r.pkgs)), (70, (.int .i64 ((r.pkgs.length : Int)))), (71, (.int .i64 0))], [(0, (.row [(.int .i64 st.kind), (.own 1), (.own 2), (.map 3)] 92)), (1, (.grow (st.repos.map A8) 41 4)), (2, (.grow (st.all.map Bb) 97 13)), (3, (.mm (A7 st.all) none 3 1)), (4, (.row [(.str r.name), (.int .i64 r.prio), (.bool r.inst), (Ai 12 Aq r.pkgs)] 41))], 5⟩ : St)) (by kernel_rfl) (by rw [show As st r 0 = st.all from by simp [As]] <;> rfl)), rfl⟩ ?_
      rintro g2 y2 ⟨i, f2_1, rfl, rfl⟩
      have hkl : ((As st r i).map Bb).length ≤ 200 := by have := Q8b (st := st) (r := r) (i := i); rw [List.length_map]; omega
      have hgl : (A7 (As st r i) (nth r.pkgs i).name).length ≤ 200 := Nat.le_trans (Q7i _ _) (by rwa [List.length_map] at hkl)
      refine Aa [] [0, 3, 69, 70, 71, 72] ?_
      refine Ab ?_
      refine A2 (p := (i : Int) < (r.pkgs.length : Int)) (by kernel_rfl) (fun c6 => ?_) (fun c6 => ?_)
      ·refine Ag ?_
       refine Da (fun y => y = ⟨[(0, (.ptr 0 0)), (3, (.ptr 4 0)), (69, (Ai 12 Aq r.pkgs)), (70, (.int .i64 ((r.pkgs.length : Int)))), (71, (.int .i64 ((i : Int))))], [(0, (.row [(.int .i64 st.kind), (.own 1), (.own 2), (.map 3)] 92)), (1, (.grow (st.repos.map A8) 41 4)), (2, (.grow ((As st r i ++ [(nth r.pkgs i, (st.repos.length : Int))]).map Bb) 97 13)), (3, (.mm (A7 (As st r i ++ [(nth r.pkgs i, (st.repos.length : Int))])) none 3 1)), (4, (.row [(.str r.name), (.int .i64 r.prio), (.bool r.inst), (Ai 12 Aq r.pkgs)] 41))], 5⟩) [0, 3, 69, 70, 71] 5 (by omega) ?_ ?_
       ·refine A0 ?_
        refine Ad [] [0, 3, 9, 69, 70, 71] [] hk0 v0 (cc 0 (p := (0 ≤ (i : Int) ∧ i < r.pkgs.length)) (by first | omega | (simp; omega) | (simp; done) | (intros; simp_all; omega) | (intros; simp_all; done)) <| c0) ?_
        refine Tp 9 (y := ⟨[(0, (.ptr 0 0)), (3, (.ptr 4 0)), (9, (.fp (Aq (nth r.pkgs i)))), (69, (Ai 12 Aq r.pkgs)), (70, (.int .i64 ((r.pkgs.length : Int)))), (71, (.int .i64 ((i : Int))))], [(0, (.row [(.int .i64 st.kind), (.own 1), (.own 2), (.map 3)] 92)), (1, (.grow (st.repos.map A8) 41 4)), (2, (.grow ((As st r i).map Bb) 97 13)), (3, (.mm (A7 (As st r i)) none 3 1)), (4, (.row [(.str r.name), (.int .i64 r.prio), (.bool r.inst), (Ai 12 Aq r.pkgs)] 41))], 6⟩) (by kernel_rfl) ?_
        refine Da (fun y => y = ⟨[(0, (.ptr 0 0)), (3, (.ptr 4 0)), (9, (.fp (Aq (nth r.pkgs i)))), (69, (Ai 12 Aq r.pkgs)), (70, (.int .i64 ((r.pkgs.length : Int)))), (71, (.int .i64 ((i : Int))))], [(0, (.row [(.int .i64 st.kind), (.own 1), (.own 2), (.map 3)] 92)), (1, (.grow (st.repos.map A8) 41 4)), (2, (.grow ((As st r i).map Bb) 97 13)), (3, (.mm (A7 (As st r i ++ [(nth r.pkgs i, (st.repos.length : Int))])) none 3 1)), (4, (.row [(.str r.name), (.int .i64 r.prio), (.bool r.inst), (Ai 12 Aq r.pkgs)] 41))], 6⟩) [0, 3, 9, 69, 70, 71] 6 (by omega) ?_ ?_
        ·refine I3 (by kernel_rfl) (fun F1 hF1 => ?_)
         refine Cc false 1 (lsD 21 [0, 1, 2, 3, 4, 5, 6, 7, 8, 9, 10, 11, 12, 13, 14, 15, 16, 17, 18, 19]) ⟨[(0, (.ptr 0 0)), (3, (.ptr 4 0)), (9, (.fp (Aq (nth r.pkgs i)))), (69, (Ai 12 Aq r.pkgs)), (70, (.int .i64 ((r.pkgs.length : Int)))), (71, (.int .i64 ((i : Int)))), (78, (.map 3)), (80, (.str ((nth r.pkgs i).name))), (94, (.own 6))], [(0, (.row [(.int .i64 st.kind), (.own 1), (.own 2), (.map 3)] 92)), (1, (.grow (st.repos.map A8) 41 4)), (2, (.grow ((As st r i).map Bb) 97 13)), (3, (.mm (A7 (As st r i)) (some ((nth r.pkgs i).name)) 3 1)), (4, (.row [(.str r.name), (.int .i64 r.prio), (.bool r.inst), (Ai 12 Aq r.pkgs)] 41)), (6, (.grow (((A7 (As st r i)) ((nth r.pkgs i).name)) ++ ([(.int .i64 ((((As st r i).map Bb).length : Int)))] : List AV)) 3 1)), (7, (.row [(.int .i64 ((((As st r i).map Bb).length : Int)))] 3))], 8⟩ ?_ (fun m1_1 => ?_)
         ·refine F4 (fuel := 0) 20 (by kernel_rfl) ?_
          refine C4 (fuel := 0) 20 rfl ?_
          refine Pz (b := 3) (c := 6) (s := (nth r.pkgs i).name) (s1 := (nth r.pkgs i).name) (y := ⟨[(0, (.ptr 0 0)), (3, (.ptr 4 0)), (9, (.fp (Aq (nth r.pkgs i)))), (69, (Ai 12 Aq r.pkgs)), (70, (.int .i64 ((r.pkgs.length : Int)))), (71, (.int .i64 ((i : Int)))), (78, (.map 3)), (80, (.str ((nth r.pkgs i).name))), (94, (.own 6))], [(0, (.row [(.int .i64 st.kind), (.own 1), (.own 2), (.map 3)] 92)), (1, (.grow (st.repos.map A8) 41 4)), (2, (.grow ((As st r i).map Bb) 97 13)), (3, (.mm (Dm (A7 (As st r i)) ((nth r.pkgs i).name) (((A7 (As st r i)) ((nth r.pkgs i).name)) ++ ([(.int .i64 ((((As st r i).map Bb).length : Int)))] : List AV))) none 3 1)), (4, (.row [(.str r.name), (.int .i64 r.prio), (.bool r.inst), (Ai 12 Aq r.pkgs)] 41)), (7, (.row [(.int .i64 ((((As st r i).map Bb).length : Int)))] 3))], 8⟩) (by kernel_rfl) (by kernel_rfl) (by kernel_rfl) (by kernel_rfl) (by kernel_rfl) rfl Tryz.underlying90 Tryz.underlying9 (by kernel_rfl) rfl ?_
          refine B2 ⟨rfl, ?_⟩
          refine Ax [0, 3, 9, 69, 70, 71] ?_
          refine Gj (by kernel_rfl) ?_
          refine ⟨by kernel_rfl, (Eq.trans (b := (⟨[(0, (.ptr 0 0)), (3, (.ptr 4 0)), (9, (.fp (Aq (nth r.pkgs i)))), (69, (Ai 12 Aq r.pkgs)), (70, (.int .i64 ((r.pkgs.length : Int)))), (71, (.int .i64 ((i : Int))))], [(0, (.row [(.int .i64 st.kind), (.own 1), (.own 2), (.map 3)] 92)), (1, (.grow (st.repos.map A8) 41 4)), (2, (.grow ((As st r i).map Bb) 97 13)), (3, (.mm (Dm (A7 (As st r i)) ((nth r.pkgs i).name) (((A7 (As st r i)) ((nth r.pkgs i).name)) ++ ([(.int .i64 ((((As st r i).map Bb).length : Int)))] : List AV))) none 3 1)), (4, (.row [(.str r.name), (.int .i64 r.prio), (.bool r.inst), (Ai 12 Aq r.pkgs)] 41))], 6⟩ : St)) (by kernel_rfl) (by rw [show (Dm (A7 (As st r i)) ((nth r.pkgs i).name) (((A7 (As st r i)) ((nth r.pkgs i).name)) ++ ([(.int .i64 ((((As st r i).map Bb).length : Int)))] : List AV))) = A7 (As st r i ++ [(nth r.pkgs i, (st.repos.length : Int))]) from by (try rw [List.length_map]); exact Xb (As st r i) (nth r.pkgs i, (st.repos.length : Int))] <;> kernel_rfl))⟩
         refine Cc false 1 (lsD 21 [0, 1, 2, 3, 4, 5, 6, 7, 8, 9, 10, 11, 12, 13, 14, 15, 16, 17, 18, 19]) ⟨[(0, (.ptr 0 0)), (3, (.ptr 4 0)), (9, (.fp (Aq (nth r.pkgs i)))), (69, (Ai 12 Aq r.pkgs)), (70, (.int .i64 ((r.pkgs.length : Int)))), (71, (.int .i64 ((i : Int)))), (78, (.map 3)), (80, (.str ((nth r.pkgs i).name))), (94, (.own 7))], [(0, (.row [(.int .i64 st.kind), (.own 1), (.own 2), (.map 3)] 92)), (1, (.grow (st.repos.map A8) 41 4)), (2, (.grow ((As st r i).map Bb) 97 13)), (3, (.mm (A7 (As st r i)) (some ((nth r.pkgs i).name)) 3 1)), (4, (.row [(.str r.name), (.int .i64 r.prio), (.bool r.inst), (Ai 12 Aq r.pkgs)] 41)), (6, (.row [(.int .i64 ((((As st r i).map Bb).length : Int)))] 3)), (7, (.grow (((A7 (As st r i)) ((nth r.pkgs i).name)) ++ ([(.int .i64 ((((As st r i).map Bb).length : Int)))] : List AV)) 3 1))], 8⟩ ?_ (fun m1_2 => ?_)
         ·refine F4 (fuel := 0) 20 (by kernel_rfl) ?_
          refine C4 (fuel := 0) 20 rfl ?_
          refine Pz (b := 3) (c := 7) (s := (nth r.pkgs i).name) (s1 := (nth r.pkgs i).name) (y := ⟨[(0, (.ptr 0 0)), (3, (.ptr 4 0)), (9, (.fp (Aq (nth r.pkgs i)))), (69, (Ai 12 Aq r.pkgs)), (70, (.int .i64 ((r.pkgs.length : Int)))), (71, (.int .i64 ((i : Int)))), (78, (.map 3)), (80, (.str ((nth r.pkgs i).name))), (94, (.own 7))], [(0, (.row [(.int .i64 st.kind), (.own 1), (.own 2), (.map 3)] 92)), (1, (.grow (st.repos.map A8) 41 4)), (2, (.grow ((As st r i).map Bb) 97 13)), (3, (.mm (Dm (A7 (As st r i)) ((nth r.pkgs i).name) (((A7 (As st r i)) ((nth r.pkgs i).name)) ++ ([(.int .i64 ((((As st r i).map Bb).length : Int)))] : List AV))) none 3 1)), (4, (.row [(.str r.name), (.int .i64 r.prio), (.bool r.inst), (Ai 12 Aq r.pkgs)] 41)), (6, (.row [(.int .i64 ((((As st r i).map Bb).length : Int)))] 3))], 8⟩) (by kernel_rfl) (by kernel_rfl) (by kernel_rfl) (by kernel_rfl) (by kernel_rfl) rfl Tryz.underlying90 Tryz.underlying9 (by kernel_rfl) rfl ?_
          refine B2 ⟨rfl, ?_⟩
          refine Ax [0, 3, 9, 69, 70, 71] ?_
          refine Gj (by kernel_rfl) ?_
          refine ⟨by kernel_rfl, (Eq.trans (b := (⟨[(0, (.ptr 0 0)), (3, (.ptr 4 0)), (9, (.fp (Aq (nth r.pkgs i)))), (69, (Ai 12 Aq r.pkgs)), (70, (.int .i64 ((r.pkgs.length : Int)))), (71, (.int .i64 ((i : Int))))], [(0, (.row [(.int .i64 st.kind), (.own 1), (.own 2), (.map 3)] 92)), (1, (.grow (st.repos.map A8) 41 4)), (2, (.grow ((As st r i).map Bb) 97 13)), (3, (.mm (Dm (A7 (As st r i)) ((nth r.pkgs i).name) (((A7 (As st r i)) ((nth r.pkgs i).name)) ++ ([(.int .i64 ((((As st r i).map Bb).length : Int)))] : List AV))) none 3 1)), (4, (.row [(.str r.name), (.int .i64 r.prio), (.bool r.inst), (Ai 12 Aq r.pkgs)] 41))], 6⟩ : St)) (by kernel_rfl) (by rw [show (Dm (A7 (As st r i)) ((nth r.pkgs i).name) (((A7 (As st r i)) ((nth r.pkgs i).name)) ++ ([(.int .i64 ((((As st r i).map Bb).length : Int)))] : List AV))) = A7 (As st r i ++ [(nth r.pkgs i, (st.repos.length : Int))]) from by (try rw [List.length_map]); exact Xb (As st r i) (nth r.pkgs i, (st.repos.length : Int))] <;> kernel_rfl))⟩
         refine Cc false 2 (lsD 21 [0, 1, 2, 3, 4, 5, 6, 7, 8, 9, 10, 11, 12, 13, 14, 15, 16, 17, 18]) ⟨[(0, (.ptr 0 0)), (3, (.ptr 4 0)), (9, (.fp (Aq (nth r.pkgs i)))), (69, (Ai 12 Aq r.pkgs)), (70, (.int .i64 ((r.pkgs.length : Int)))), (71, (.int .i64 ((i : Int)))), (78, (.map 3)), (80, (.str ((nth r.pkgs i).name))), (87, (.own 6)), (93, (.sl 7 0 1 1 false))], [(0, (.row [(.int .i64 st.kind), (.own 1), (.own 2), (.map 3)] 92)), (1, (.grow (st.repos.map A8) 41 4)), (2, (.grow ((As st r i).map Bb) 97 13)), (3, (.mm (A7 (As st r i)) (some ((nth r.pkgs i).name)) 3 1)), (4, (.row [(.str r.name), (.int .i64 r.prio), (.bool r.inst), (Ai 12 Aq r.pkgs)] 41)), (6, (.grow ((A7 (As st r i)) ((nth r.pkgs i).name)) 3 1)), (7, (.row [(.int .i64 ((((As st r i).map Bb).length : Int)))] 3))], 8⟩ ?_ (fun m1_3 => ?_)
         ·refine Cq (fuel := 1) 19 [] (hold (p := ((((A7 (As st r i)) ((nth r.pkgs i).name)).length + 1) * 8 ≤ 140737488355328)) (by first | omega | (simp; omega) | (simp; done) | (intros; simp_all; omega) | (intros; simp_all; done))) ?_
          refine Ax [0, 3, 9, 69, 70, 71, 78, 80, 94] ?_
          exact Bc m1_1
         refine Cc false 2 (lsD 21 [0, 1, 2, 3, 4, 5, 6, 7, 8, 9, 10, 11, 12, 13, 14, 15, 16, 17, 18]) ⟨[(0, (.ptr 0 0)), (3, (.ptr 4 0)), (9, (.fp (Aq (nth r.pkgs i)))), (69, (Ai 12 Aq r.pkgs)), (70, (.int .i64 ((r.pkgs.length : Int)))), (71, (.int .i64 ((i : Int)))), (78, (.map 3)), (80, (.str ((nth r.pkgs i).name))), (87, (.own 7)), (93, (.sl 6 0 1 1 false))], [(0, (.row [(.int .i64 st.kind), (.own 1), (.own 2), (.map 3)] 92)), (1, (.grow (st.repos.map A8) 41 4)), (2, (.grow ((As st r i).map Bb) 97 13)), (3, (.mm (A7 (As st r i)) (some ((nth r.pkgs i).name)) 3 1)), (4, (.row [(.str r.name), (.int .i64 r.prio), (.bool r.inst), (Ai 12 Aq r.pkgs)] 41)), (6, (.row [(.int .i64 ((((As st r i).map Bb).length : Int)))] 3)), (7, (.grow ((A7 (As st r i)) ((nth r.pkgs i).name)) 3 1))], 8⟩ ?_ (fun m1_4 => ?_)
         ·refine Cq (fuel := 1) 19 [] (hold (p := ((((A7 (As st r i)) ((nth r.pkgs i).name)).length + 1) * 8 ≤ 140737488355328)) (by first | omega | (simp; omega) | (simp; done) | (intros; simp_all; omega) | (intros; simp_all; done))) ?_
          refine Ax [0, 3, 9, 69, 70, 71, 78, 80, 94] ?_
          exact Bc m1_2
         refine Cc false 3 (lsD 21 [0, 1, 2, 3, 4, 5, 6, 7, 8, 9, 10, 11, 12, 13, 14, 15, 16, 17]) ⟨[(0, (.ptr 0 0)), (3, (.ptr 4 0)), (9, (.fp (Aq (nth r.pkgs i)))), (69, (Ai 12 Aq r.pkgs)), (70, (.int .i64 ((r.pkgs.length : Int)))), (71, (.int .i64 ((i : Int)))), (78, (.map 3)), (80, (.str ((nth r.pkgs i).name))), (87, (.own 6)), (92, (.int .i64 ((((As st r i).map Bb).length : Int))))], [(0, (.row [(.int .i64 st.kind), (.own 1), (.own 2), (.map 3)] 92)), (1, (.grow (st.repos.map A8) 41 4)), (2, (.grow ((As st r i).map Bb) 97 13)), (3, (.mm (A7 (As st r i)) (some ((nth r.pkgs i).name)) 3 1)), (4, (.row [(.str r.name), (.int .i64 r.prio), (.bool r.inst), (Ai 12 Aq r.pkgs)] 41)), (6, (.grow ((A7 (As st r i)) ((nth r.pkgs i).name)) 3 1))], 7⟩ ?_ (fun m1_5 => ?_)
         ·refine Cq (fuel := 2) 18 [] Az ?_
          refine Ax [0, 3, 9, 69, 70, 71, 78, 80, 87, 93] ?_
          exact Bc m1_3
         refine Cc true 3 (lsD 21 [0, 1, 2, 3, 4, 5, 6, 7, 8, 9, 10, 11, 13, 14, 15, 16, 17, 18]) ⟨[(0, (.ptr 0 0)), (3, (.ptr 4 0)), (9, (.fp (Aq (nth r.pkgs i)))), (69, (Ai 12 Aq r.pkgs)), (70, (.int .i64 ((r.pkgs.length : Int)))), (71, (.int .i64 ((i : Int)))), (78, (.map 3)), (80, (.str ((nth r.pkgs i).name))), (84, (.map 3)), (86, (.str ((nth r.pkgs i).name))), (93, (.sl 6 0 1 1 false))], [(0, (.row [(.int .i64 st.kind), (.own 1), (.own 2), (.map 3)] 92)), (1, (.grow (st.repos.map A8) 41 4)), (2, (.grow ((As st r i).map Bb) 97 13)), (3, (.mm (A7 (As st r i)) none 3 1)), (4, (.row [(.str r.name), (.int .i64 r.prio), (.bool r.inst), (Ai 12 Aq r.pkgs)] 41)), (6, (.row [(.int .i64 ((((As st r i).map Bb).length : Int)))] 3))], 7⟩ ?_ (fun m1_6 => ?_)
         ·refine F4 (fuel := 2) 12 (by kernel_rfl) ?_
          refine C4 (fuel := 2) 12 rfl ?_
          refine Ey (b := 3) (s := (nth r.pkgs i).name) (y := ⟨[(0, (.ptr 0 0)), (3, (.ptr 4 0)), (9, (.fp (Aq (nth r.pkgs i)))), (69, (Ai 12 Aq r.pkgs)), (70, (.int .i64 ((r.pkgs.length : Int)))), (71, (.int .i64 ((i : Int)))), (78, (.map 3)), (80, (.str ((nth r.pkgs i).name))), (84, (.map 3)), (86, (.str ((nth r.pkgs i).name))), (93, (.sl 6 0 1 1 false)), (87, (.own 7))], [(0, (.row [(.int .i64 st.kind), (.own 1), (.own 2), (.map 3)] 92)), (1, (.grow (st.repos.map A8) 41 4)), (2, (.grow ((As st r i).map Bb) 97 13)), (3, (.mm (A7 (As st r i)) (some ((nth r.pkgs i).name)) 3 1)), (4, (.row [(.str r.name), (.int .i64 r.prio), (.bool r.inst), (Ai 12 Aq r.pkgs)] 41)), (6, (.row [(.int .i64 ((((As st r i).map Bb).length : Int)))] 3)), (7, (.grow ((A7 (As st r i)) ((nth r.pkgs i).name)) 3 1))], 8⟩) (by kernel_rfl) (by kernel_rfl) (by kernel_rfl) Tryz.underlying90 Tryz.underlying9 (fun _ => by kernel_rfl) (by kernel_rfl) ?_
          refine B2 ⟨rfl, ?_⟩
          refine Ax [0, 3, 9, 69, 70, 71, 78, 80, 87, 93] ?_
          exact Bc m1_4
         refine Cc false 4 (lsD 21 [0, 1, 2, 3, 4, 5, 6, 7, 8, 9, 10, 11, 12, 13, 14, 15, 16]) ⟨[(0, (.ptr 0 0)), (3, (.ptr 4 0)), (9, (.fp (Aq (nth r.pkgs i)))), (69, (Ai 12 Aq r.pkgs)), (70, (.int .i64 ((r.pkgs.length : Int)))), (71, (.int .i64 ((i : Int)))), (78, (.map 3)), (80, (.str ((nth r.pkgs i).name))), (87, (.own 6)), (91, (.own 2))], [(0, (.row [(.int .i64 st.kind), (.own 1), (.own 2), (.map 3)] 92)), (1, (.grow (st.repos.map A8) 41 4)), (2, (.grow ((As st r i).map Bb) 97 13)), (3, (.mm (A7 (As st r i)) (some ((nth r.pkgs i).name)) 3 1)), (4, (.row [(.str r.name), (.int .i64 r.prio), (.bool r.inst), (Ai 12 Aq r.pkgs)] 41)), (6, (.grow ((A7 (As st r i)) ((nth r.pkgs i).name)) 3 1))], 7⟩ ?_ (fun m1_7 => ?_)
         ·refine Cq (fuel := 3) 17 [] Az ?_
          refine Ax [0, 3, 9, 69, 70, 71, 78, 80, 87, 92] ?_
          exact Bc m1_5
         refine Cc true 4 (lsD 21 [0, 1, 2, 3, 4, 5, 6, 7, 8, 9, 10, 11, 13, 14, 15, 16, 17]) ⟨[(0, (.ptr 0 0)), (3, (.ptr 4 0)), (9, (.fp (Aq (nth r.pkgs i)))), (69, (Ai 12 Aq r.pkgs)), (70, (.int .i64 ((r.pkgs.length : Int)))), (71, (.int .i64 ((i : Int)))), (78, (.map 3)), (80, (.str ((nth r.pkgs i).name))), (84, (.map 3)), (86, (.str ((nth r.pkgs i).name))), (92, (.int .i64 ((((As st r i).map Bb).length : Int))))], [(0, (.row [(.int .i64 st.kind), (.own 1), (.own 2), (.map 3)] 92)), (1, (.grow (st.repos.map A8) 41 4)), (2, (.grow ((As st r i).map Bb) 97 13)), (3, (.mm (A7 (As st r i)) none 3 1)), (4, (.row [(.str r.name), (.int .i64 r.prio), (.bool r.inst), (Ai 12 Aq r.pkgs)] 41))], 6⟩ ?_ (fun m1_8 => ?_)
         ·refine Ce 12 18 (by kernel_rfl) ?_ ?_
          ·refine C4 (fuel := 3) 12 rfl ?_
           refine Ey (b := 3) (s := (nth r.pkgs i).name) (y := ⟨[(0, (.ptr 0 0)), (3, (.ptr 4 0)), (9, (.fp (Aq (nth r.pkgs i)))), (69, (Ai 12 Aq r.pkgs)), (70, (.int .i64 ((r.pkgs.length : Int)))), (71, (.int .i64 ((i : Int)))), (78, (.map 3)), (80, (.str ((nth r.pkgs i).name))), (84, (.map 3)), (86, (.str ((nth r.pkgs i).name))), (92, (.int .i64 ((((As st r i).map Bb).length : Int)))), (87, (.own 6))], [(0, (.row [(.int .i64 st.kind), (.own 1), (.own 2), (.map 3)] 92)), (1, (.grow (st.repos.map A8) 41 4)), (2, (.grow ((As st r i).map Bb) 97 13)), (3, (.mm (A7 (As st r i)) (some ((nth r.pkgs i).name)) 3 1)), (4, (.row [(.str r.name), (.int .i64 r.prio), (.bool r.inst), (Ai 12 Aq r.pkgs)] 41)), (6, (.grow ((A7 (As st r i)) ((nth r.pkgs i).name)) 3 1))], 7⟩) (by kernel_rfl) (by kernel_rfl) (by kernel_rfl) Tryz.underlying90 Tryz.underlying9 (fun _ => by kernel_rfl) (by kernel_rfl) ?_
           refine B2 ⟨rfl, ?_⟩
           refine Ax [0, 3, 9, 69, 70, 71, 78, 80, 87, 92] ?_
           exact Bc m1_5
          ·refine Ba (fuel := 3) 18 [] Az ?_
           refine Ax [0, 3, 9, 69, 70, 71, 78, 80, 84, 86, 93] ?_
           exact Bc m1_6
         refine Cc true 4 (lsD 21 [0, 1, 2, 3, 4, 5, 6, 7, 8, 10, 11, 13, 14, 15, 16, 17, 18]) ⟨[(0, (.ptr 0 0)), (3, (.ptr 4 0)), (9, (.fp (Aq (nth r.pkgs i)))), (69, (Ai 12 Aq r.pkgs)), (70, (.int .i64 ((r.pkgs.length : Int)))), (71, (.int .i64 ((i : Int)))), (78, (.map 3)), (80, (.str ((nth r.pkgs i).name))), (83, (.ptr 0 3)), (86, (.str ((nth r.pkgs i).name))), (93, (.sl 6 0 1 1 false))], [(0, (.row [(.int .i64 st.kind), (.own 1), (.own 2), (.map 3)] 92)), (1, (.grow (st.repos.map A8) 41 4)), (2, (.grow ((As st r i).map Bb) 97 13)), (3, (.mm (A7 (As st r i)) none 3 1)), (4, (.row [(.str r.name), (.int .i64 r.prio), (.bool r.inst), (Ai 12 Aq r.pkgs)] 41)), (6, (.row [(.int .i64 ((((As st r i).map Bb).length : Int)))] 3))], 7⟩ ?_ (fun m1_9 => ?_)
         ·refine Cq (fuel := 3) 9 [] Az ?_
          refine Ax [0, 3, 9, 69, 70, 71, 78, 80, 84, 86, 93] ?_
          exact Bc m1_6
         refine Cc false 4 (lsD 21 [0, 1, 2, 4, 5, 6, 7, 8, 9, 10, 11, 12, 13, 14, 15, 16, 17]) ⟨[(0, (.ptr 0 0)), (3, (.ptr 4 0)), (9, (.fp (Aq (nth r.pkgs i)))), (69, (Ai 12 Aq r.pkgs)), (70, (.int .i64 ((r.pkgs.length : Int)))), (71, (.int .i64 ((i : Int)))), (77, (.ptr 0 3)), (80, (.str ((nth r.pkgs i).name))), (87, (.own 6)), (92, (.int .i64 ((((As st r i).map Bb).length : Int))))], [(0, (.row [(.int .i64 st.kind), (.own 1), (.own 2), (.map 3)] 92)), (1, (.grow (st.repos.map A8) 41 4)), (2, (.grow ((As st r i).map Bb) 97 13)), (3, (.mm (A7 (As st r i)) (some ((nth r.pkgs i).name)) 3 1)), (4, (.row [(.str r.name), (.int .i64 r.prio), (.bool r.inst), (Ai 12 Aq r.pkgs)] 41)), (6, (.grow ((A7 (As st r i)) ((nth r.pkgs i).name)) 3 1))], 7⟩ ?_ (fun m1_10 => ?_)
         ·refine Ce 3 18 (by kernel_rfl) ?_ ?_
          ·refine Ba (fuel := 3) 3 [] Az ?_
           refine Ax [0, 3, 9, 69, 70, 71, 78, 80, 87, 92] ?_
           exact Bc m1_5
          ·refine Ba (fuel := 3) 18 [] Az ?_
           refine Ax [0, 3, 9, 69, 70, 71, 77, 80, 87, 93] ?_
           refine Ce 3 19 (by kernel_rfl) ?_ ?_
           ·refine Ba (fuel := 2) 3 [] Az ?_
            refine Ax [0, 3, 9, 69, 70, 71, 78, 80, 87, 93] ?_
            exact Bc m1_3
           ·refine Ba (fuel := 2) 19 [] (hold (p := ((((A7 (As st r i)) ((nth r.pkgs i).name)).length + 1) * 8 ≤ 140737488355328)) (by first | omega | (simp; omega) | (simp; done) | (intros; simp_all; omega) | (intros; simp_all; done))) ?_
            refine Ax [0, 3, 9, 69, 70, 71, 77, 80, 94] ?_
            refine Cq (fuel := 1) 3 [] Az ?_
            refine Ax [0, 3, 9, 69, 70, 71, 78, 80, 94] ?_
            exact Bc m1_1
         refine Cc true 4 (lsD 21 [0, 1, 2, 4, 5, 6, 7, 8, 9, 10, 11, 13, 14, 15, 16, 17, 18]) ⟨[(0, (.ptr 0 0)), (3, (.ptr 4 0)), (9, (.fp (Aq (nth r.pkgs i)))), (69, (Ai 12 Aq r.pkgs)), (70, (.int .i64 ((r.pkgs.length : Int)))), (71, (.int .i64 ((i : Int)))), (77, (.ptr 0 3)), (80, (.str ((nth r.pkgs i).name))), (84, (.map 3)), (86, (.str ((nth r.pkgs i).name))), (93, (.sl 6 0 1 1 false))], [(0, (.row [(.int .i64 st.kind), (.own 1), (.own 2), (.map 3)] 92)), (1, (.grow (st.repos.map A8) 41 4)), (2, (.grow ((As st r i).map Bb) 97 13)), (3, (.mm (A7 (As st r i)) none 3 1)), (4, (.row [(.str r.name), (.int .i64 r.prio), (.bool r.inst), (Ai 12 Aq r.pkgs)] 41)), (6, (.row [(.int .i64 ((((As st r i).map Bb).length : Int)))] 3))], 7⟩ ?_ (fun m1_11 => ?_)
         ·refine Ce 3 12 (by kernel_rfl) ?_ ?_
          ·refine Ba (fuel := 3) 3 [] Az ?_
           refine Ax [0, 3, 9, 69, 70, 71, 78, 80, 84, 86, 93] ?_
           exact Bc m1_6
          ·refine C4 (fuel := 3) 12 rfl ?_
           refine Ey (b := 3) (s := (nth r.pkgs i).name) (y := ⟨[(0, (.ptr 0 0)), (3, (.ptr 4 0)), (9, (.fp (Aq (nth r.pkgs i)))), (69, (Ai 12 Aq r.pkgs)), (70, (.int .i64 ((r.pkgs.length : Int)))), (71, (.int .i64 ((i : Int)))), (77, (.ptr 0 3)), (80, (.str ((nth r.pkgs i).name))), (84, (.map 3)), (86, (.str ((nth r.pkgs i).name))), (93, (.sl 6 0 1 1 false)), (87, (.own 7))], [(0, (.row [(.int .i64 st.kind), (.own 1), (.own 2), (.map 3)] 92)), (1, (.grow (st.repos.map A8) 41 4)), (2, (.grow ((As st r i).map Bb) 97 13)), (3, (.mm (A7 (As st r i)) (some ((nth r.pkgs i).name)) 3 1)), (4, (.row [(.str r.name), (.int .i64 r.prio), (.bool r.inst), (Ai 12 Aq r.pkgs)] 41)), (6, (.row [(.int .i64 ((((As st r i).map Bb).length : Int)))] 3)), (7, (.grow ((A7 (As st r i)) ((nth r.pkgs i).name)) 3 1))], 8⟩) (by kernel_rfl) (by kernel_rfl) (by kernel_rfl) Tryz.underlying90 Tryz.underlying9 (fun _ => by kernel_rfl) (by kernel_rfl) ?_
           refine B2 ⟨rfl, ?_⟩
           refine Ax [0, 3, 9, 69, 70, 71, 77, 80, 87, 93] ?_
           refine Ce 3 19 (by kernel_rfl) ?_ ?_
           ·refine Ba (fuel := 2) 3 [] Az ?_
            refine Ax [0, 3, 9, 69, 70, 71, 78, 80, 87, 93] ?_
            exact Bc m1_4
           ·refine Ba (fuel := 2) 19 [] (hold (p := ((((A7 (As st r i)) ((nth r.pkgs i).name)).length + 1) * 8 ≤ 140737488355328)) (by first | omega | (simp; omega) | (simp; done) | (intros; simp_all; omega) | (intros; simp_all; done))) ?_
            refine Ax [0, 3, 9, 69, 70, 71, 77, 80, 94] ?_
            refine Cq (fuel := 1) 3 [] Az ?_
            refine Ax [0, 3, 9, 69, 70, 71, 78, 80, 94] ?_
            exact Bc m1_2
         refine Cc false 5 (lsD 21 [0, 1, 2, 3, 4, 5, 6, 7, 8, 9, 10, 11, 12, 13, 14, 15]) ⟨[(0, (.ptr 0 0)), (3, (.ptr 4 0)), (9, (.fp (Aq (nth r.pkgs i)))), (69, (Ai 12 Aq r.pkgs)), (70, (.int .i64 ((r.pkgs.length : Int)))), (71, (.int .i64 ((i : Int)))), (78, (.map 3)), (80, (.str ((nth r.pkgs i).name))), (87, (.own 6)), (90, (.ptr 0 2))], [(0, (.row [(.int .i64 st.kind), (.own 1), (.own 2), (.map 3)] 92)), (1, (.grow (st.repos.map A8) 41 4)), (2, (.grow ((As st r i).map Bb) 97 13)), (3, (.mm (A7 (As st r i)) (some ((nth r.pkgs i).name)) 3 1)), (4, (.row [(.str r.name), (.int .i64 r.prio), (.bool r.inst), (Ai 12 Aq r.pkgs)] 41)), (6, (.grow ((A7 (As st r i)) ((nth r.pkgs i).name)) 3 1))], 7⟩ ?_ (fun m1_12 => ?_)
         ·refine Cq (fuel := 4) 16 [] Az ?_
          refine Ax [0, 3, 9, 69, 70, 71, 78, 80, 87, 91] ?_
          exact Bc m1_7
         refine Cc true 5 (lsD 21 [0, 1, 2, 3, 4, 5, 6, 7, 8, 9, 10, 11, 13, 14, 15, 16]) ⟨[(0, (.ptr 0 0)), (3, (.ptr 4 0)), (9, (.fp (Aq (nth r.pkgs i)))), (69, (Ai 12 Aq r.pkgs)), (70, (.int .i64 ((r.pkgs.length : Int)))), (71, (.int .i64 ((i : Int)))), (78, (.map 3)), (80, (.str ((nth r.pkgs i).name))), (84, (.map 3)), (86, (.str ((nth r.pkgs i).name))), (91, (.own 2))], [(0, (.row [(.int .i64 st.kind), (.own 1), (.own 2), (.map 3)] 92)), (1, (.grow (st.repos.map A8) 41 4)), (2, (.grow ((As st r i).map Bb) 97 13)), (3, (.mm (A7 (As st r i)) none 3 1)), (4, (.row [(.str r.name), (.int .i64 r.prio), (.bool r.inst), (Ai 12 Aq r.pkgs)] 41))], 6⟩ ?_ (fun m1_13 => ?_)
         ·refine Ce 12 17 (by kernel_rfl) ?_ ?_
          ·refine C4 (fuel := 4) 12 rfl ?_
           refine Ey (b := 3) (s := (nth r.pkgs i).name) (y := ⟨[(0, (.ptr 0 0)), (3, (.ptr 4 0)), (9, (.fp (Aq (nth r.pkgs i)))), (69, (Ai 12 Aq r.pkgs)), (70, (.int .i64 ((r.pkgs.length : Int)))), (71, (.int .i64 ((i : Int)))), (78, (.map 3)), (80, (.str ((nth r.pkgs i).name))), (84, (.map 3)), (86, (.str ((nth r.pkgs i).name))), (91, (.own 2)), (87, (.own 6))], [(0, (.row [(.int .i64 st.kind), (.own 1), (.own 2), (.map 3)] 92)), (1, (.grow (st.repos.map A8) 41 4)), (2, (.grow ((As st r i).map Bb) 97 13)), (3, (.mm (A7 (As st r i)) (some ((nth r.pkgs i).name)) 3 1)), (4, (.row [(.str r.name), (.int .i64 r.prio), (.bool r.inst), (Ai 12 Aq r.pkgs)] 41)), (6, (.grow ((A7 (As st r i)) ((nth r.pkgs i).name)) 3 1))], 7⟩) (by kernel_rfl) (by kernel_rfl) (by kernel_rfl) Tryz.underlying90 Tryz.underlying9 (fun _ => by kernel_rfl) (by kernel_rfl) ?_
           refine B2 ⟨rfl, ?_⟩
           refine Ax [0, 3, 9, 69, 70, 71, 78, 80, 87, 91] ?_
           exact Bc m1_7
          ·refine Ba (fuel := 4) 17 [] Az ?_
           refine Ax [0, 3, 9, 69, 70, 71, 78, 80, 84, 86, 92] ?_
           exact Bc m1_8
         refine Cc true 5 (lsD 21 [0, 1, 2, 3, 4, 5, 6, 7, 8, 10, 11, 13, 14, 15, 16, 17]) ⟨[(0, (.ptr 0 0)), (3, (.ptr 4 0)), (9, (.fp (Aq (nth r.pkgs i)))), (69, (Ai 12 Aq r.pkgs)), (70, (.int .i64 ((r.pkgs.length : Int)))), (71, (.int .i64 ((i : Int)))), (78, (.map 3)), (80, (.str ((nth r.pkgs i).name))), (83, (.ptr 0 3)), (86, (.str ((nth r.pkgs i).name))), (92, (.int .i64 ((((As st r i).map Bb).length : Int))))], [(0, (.row [(.int .i64 st.kind), (.own 1), (.own 2), (.map 3)] 92)), (1, (.grow (st.repos.map A8) 41 4)), (2, (.grow ((As st r i).map Bb) 97 13)), (3, (.mm (A7 (As st r i)) none 3 1)), (4, (.row [(.str r.name), (.int .i64 r.prio), (.bool r.inst), (Ai 12 Aq r.pkgs)] 41))], 6⟩ ?_ (fun m1_14 => ?_)
         ·refine Ce 9 18 (by kernel_rfl) ?_ ?_
          ·refine Ba (fuel := 4) 9 [] Az ?_
           refine Ax [0, 3, 9, 69, 70, 71, 78, 80, 84, 86, 92] ?_
           exact Bc m1_8
          ·refine Ba (fuel := 4) 18 [] Az ?_
           refine Ax [0, 3, 9, 69, 70, 71, 78, 80, 83, 86, 93] ?_
           exact Bc m1_9
         refine Cc false 5 (lsD 21 [0, 1, 2, 4, 5, 6, 7, 8, 9, 10, 11, 12, 13, 14, 15, 16]) ⟨[(0, (.ptr 0 0)), (3, (.ptr 4 0)), (9, (.fp (Aq (nth r.pkgs i)))), (69, (Ai 12 Aq r.pkgs)), (70, (.int .i64 ((r.pkgs.length : Int)))), (71, (.int .i64 ((i : Int)))), (77, (.ptr 0 3)), (80, (.str ((nth r.pkgs i).name))), (87, (.own 6)), (91, (.own 2))], [(0, (.row [(.int .i64 st.kind), (.own 1), (.own 2), (.map 3)] 92)), (1, (.grow (st.repos.map A8) 41 4)), (2, (.grow ((As st r i).map Bb) 97 13)), (3, (.mm (A7 (As st r i)) (some ((nth r.pkgs i).name)) 3 1)), (4, (.row [(.str r.name), (.int .i64 r.prio), (.bool r.inst), (Ai 12 Aq r.pkgs)] 41)), (6, (.grow ((A7 (As st r i)) ((nth r.pkgs i).name)) 3 1))], 7⟩ ?_ (fun m1_15 => ?_)
         ·refine Ce 3 17 (by kernel_rfl) ?_ ?_
          ·refine Ba (fuel := 4) 3 [] Az ?_
           refine Ax [0, 3, 9, 69, 70, 71, 78, 80, 87, 91] ?_
           exact Bc m1_7
          ·refine Ba (fuel := 4) 17 [] Az ?_
           refine Ax [0, 3, 9, 69, 70, 71, 77, 80, 87, 92] ?_
           exact Bc m1_10
         refine Cc true 5 (lsD 21 [0, 1, 2, 4, 5, 6, 7, 8, 9, 10, 11, 13, 14, 15, 16, 17]) ⟨[(0, (.ptr 0 0)), (3, (.ptr 4 0)), (9, (.fp (Aq (nth r.pkgs i)))), (69, (Ai 12 Aq r.pkgs)), (70, (.int .i64 ((r.pkgs.length : Int)))), (71, (.int .i64 ((i : Int)))), (77, (.ptr 0 3)), (80, (.str ((nth r.pkgs i).name))), (84, (.map 3)), (86, (.str ((nth r.pkgs i).name))), (92, (.int .i64 ((((As st r i).map Bb).length : Int))))], [(0, (.row [(.int .i64 st.kind), (.own 1), (.own 2), (.map 3)] 92)), (1, (.grow (st.repos.map A8) 41 4)), (2, (.grow ((As st r i).map Bb) 97 13)), (3, (.mm (A7 (As st r i)) none 3 1)), (4, (.row [(.str r.name), (.int .i64 r.prio), (.bool r.inst), (Ai 12 Aq r.pkgs)] 41))], 6⟩ ?_ (fun m1_16 => ?_)
         ·refine Fl 3 12 18 (by kernel_rfl) ?_ ?_ ?_
          ·refine Ba (fuel := 4) 3 [] Az ?_
           refine Ax [0, 3, 9, 69, 70, 71, 78, 80, 84, 86, 92] ?_
           exact Bc m1_8
          ·refine C4 (fuel := 4) 12 rfl ?_
           refine Ey (b := 3) (s := (nth r.pkgs i).name) (y := ⟨[(0, (.ptr 0 0)), (3, (.ptr 4 0)), (9, (.fp (Aq (nth r.pkgs i)))), (69, (Ai 12 Aq r.pkgs)), (70, (.int .i64 ((r.pkgs.length : Int)))), (71, (.int .i64 ((i : Int)))), (77, (.ptr 0 3)), (80, (.str ((nth r.pkgs i).name))), (84, (.map 3)), (86, (.str ((nth r.pkgs i).name))), (92, (.int .i64 ((((As st r i).map Bb).length : Int)))), (87, (.own 6))], [(0, (.row [(.int .i64 st.kind), (.own 1), (.own 2), (.map 3)] 92)), (1, (.grow (st.repos.map A8) 41 4)), (2, (.grow ((As st r i).map Bb) 97 13)), (3, (.mm (A7 (As st r i)) (some ((nth r.pkgs i).name)) 3 1)), (4, (.row [(.str r.name), (.int .i64 r.prio), (.bool r.inst), (Ai 12 Aq r.pkgs)] 41)), (6, (.grow ((A7 (As st r i)) ((nth r.pkgs i).name)) 3 1))], 7⟩) (by kernel_rfl) (by kernel_rfl) (by kernel_rfl) Tryz.underlying90 Tryz.underlying9 (fun _ => by kernel_rfl) (by kernel_rfl) ?_
           refine B2 ⟨rfl, ?_⟩
           refine Ax [0, 3, 9, 69, 70, 71, 77, 80, 87, 92] ?_
           exact Bc m1_10
          ·refine Ba (fuel := 4) 18 [] Az ?_
           refine Ax [0, 3, 9, 69, 70, 71, 77, 80, 84, 86, 93] ?_
           exact Bc m1_11
         refine Cc true 6 (lsD 21 [0, 1, 2, 3, 4, 5, 6, 7, 8, 9, 10, 11, 13, 14, 15]) ⟨[(0, (.ptr 0 0)), (3, (.ptr 4 0)), (9, (.fp (Aq (nth r.pkgs i)))), (69, (Ai 12 Aq r.pkgs)), (70, (.int .i64 ((r.pkgs.length : Int)))), (71, (.int .i64 ((i : Int)))), (78, (.map 3)), (80, (.str ((nth r.pkgs i).name))), (84, (.map 3)), (86, (.str ((nth r.pkgs i).name))), (90, (.ptr 0 2))], [(0, (.row [(.int .i64 st.kind), (.own 1), (.own 2), (.map 3)] 92)), (1, (.grow (st.repos.map A8) 41 4)), (2, (.grow ((As st r i).map Bb) 97 13)), (3, (.mm (A7 (As st r i)) none 3 1)), (4, (.row [(.str r.name), (.int .i64 r.prio), (.bool r.inst), (Ai 12 Aq r.pkgs)] 41))], 6⟩ ?_ (fun m1_17 => ?_)
         ·refine Ce 12 16 (by kernel_rfl) ?_ ?_
          ·refine C4 (fuel := 5) 12 rfl ?_
           refine Ey (b := 3) (s := (nth r.pkgs i).name) (y := ⟨[(0, (.ptr 0 0)), (3, (.ptr 4 0)), (9, (.fp (Aq (nth r.pkgs i)))), (69, (Ai 12 Aq r.pkgs)), (70, (.int .i64 ((r.pkgs.length : Int)))), (71, (.int .i64 ((i : Int)))), (78, (.map 3)), (80, (.str ((nth r.pkgs i).name))), (84, (.map 3)), (86, (.str ((nth r.pkgs i).name))), (90, (.ptr 0 2)), (87, (.own 6))], [(0, (.row [(.int .i64 st.kind), (.own 1), (.own 2), (.map 3)] 92)), (1, (.grow (st.repos.map A8) 41 4)), (2, (.grow ((As st r i).map Bb) 97 13)), (3, (.mm (A7 (As st r i)) (some ((nth r.pkgs i).name)) 3 1)), (4, (.row [(.str r.name), (.int .i64 r.prio), (.bool r.inst), (Ai 12 Aq r.pkgs)] 41)), (6, (.grow ((A7 (As st r i)) ((nth r.pkgs i).name)) 3 1))], 7⟩) (by kernel_rfl) (by kernel_rfl) (by kernel_rfl) Tryz.underlying90 Tryz.underlying9 (fun _ => by kernel_rfl) (by kernel_rfl) ?_
           refine B2 ⟨rfl, ?_⟩
           refine Ax [0, 3, 9, 69, 70, 71, 78, 80, 87, 90] ?_
           exact Bc m1_12
          ·refine Ba (fuel := 5) 16 [] Az ?_
           refine Ax [0, 3, 9, 69, 70, 71, 78, 80, 84, 86, 91] ?_
           exact Bc m1_13
         refine Cc true 6 (lsD 21 [0, 1, 2, 3, 4, 5, 6, 7, 8, 10, 11, 13, 14, 15, 16]) ⟨[(0, (.ptr 0 0)), (3, (.ptr 4 0)), (9, (.fp (Aq (nth r.pkgs i)))), (69, (Ai 12 Aq r.pkgs)), (70, (.int .i64 ((r.pkgs.length : Int)))), (71, (.int .i64 ((i : Int)))), (78, (.map 3)), (80, (.str ((nth r.pkgs i).name))), (83, (.ptr 0 3)), (86, (.str ((nth r.pkgs i).name))), (91, (.own 2))], [(0, (.row [(.int .i64 st.kind), (.own 1), (.own 2), (.map 3)] 92)), (1, (.grow (st.repos.map A8) 41 4)), (2, (.grow ((As st r i).map Bb) 97 13)), (3, (.mm (A7 (As st r i)) none 3 1)), (4, (.row [(.str r.name), (.int .i64 r.prio), (.bool r.inst), (Ai 12 Aq r.pkgs)] 41))], 6⟩ ?_ (fun m1_18 => ?_)
         ·refine Ce 9 17 (by kernel_rfl) ?_ ?_
          ·refine Ba (fuel := 5) 9 [] Az ?_
           refine Ax [0, 3, 9, 69, 70, 71, 78, 80, 84, 86, 91] ?_
           exact Bc m1_13
          ·refine Ba (fuel := 5) 17 [] Az ?_
           refine Ax [0, 3, 9, 69, 70, 71, 78, 80, 83, 86, 92] ?_
           exact Bc m1_14
         refine Cc true 6 (lsD 21 [0, 1, 2, 4, 5, 6, 7, 8, 9, 10, 11, 13, 14, 15, 16]) ⟨[(0, (.ptr 0 0)), (3, (.ptr 4 0)), (9, (.fp (Aq (nth r.pkgs i)))), (69, (Ai 12 Aq r.pkgs)), (70, (.int .i64 ((r.pkgs.length : Int)))), (71, (.int .i64 ((i : Int)))), (77, (.ptr 0 3)), (80, (.str ((nth r.pkgs i).name))), (84, (.map 3)), (86, (.str ((nth r.pkgs i).name))), (91, (.own 2))], [(0, (.row [(.int .i64 st.kind), (.own 1), (.own 2), (.map 3)] 92)), (1, (.grow (st.repos.map A8) 41 4)), (2, (.grow ((As st r i).map Bb) 97 13)), (3, (.mm (A7 (As st r i)) none 3 1)), (4, (.row [(.str r.name), (.int .i64 r.prio), (.bool r.inst), (Ai 12 Aq r.pkgs)] 41))], 6⟩ ?_ (fun m1_19 => ?_)
         ·refine Fl 3 12 17 (by kernel_rfl) ?_ ?_ ?_
          ·refine Ba (fuel := 5) 3 [] Az ?_
           refine Ax [0, 3, 9, 69, 70, 71, 78, 80, 84, 86, 91] ?_
           exact Bc m1_13
          ·refine C4 (fuel := 5) 12 rfl ?_
           refine Ey (b := 3) (s := (nth r.pkgs i).name) (y := ⟨[(0, (.ptr 0 0)), (3, (.ptr 4 0)), (9, (.fp (Aq (nth r.pkgs i)))), (69, (Ai 12 Aq r.pkgs)), (70, (.int .i64 ((r.pkgs.length : Int)))), (71, (.int .i64 ((i : Int)))), (77, (.ptr 0 3)), (80, (.str ((nth r.pkgs i).name))), (84, (.map 3)), (86, (.str ((nth r.pkgs i).name))), (91, (.own 2)), (87, (.own 6))], [(0, (.row [(.int .i64 st.kind), (.own 1), (.own 2), (.map 3)] 92)), (1, (.grow (st.repos.map A8) 41 4)), (2, (.grow ((As st r i).map Bb) 97 13)), (3, (.mm (A7 (As st r i)) (some ((nth r.pkgs i).name)) 3 1)), (4, (.row [(.str r.name), (.int .i64 r.prio), (.bool r.inst), (Ai 12 Aq r.pkgs)] 41)), (6, (.grow ((A7 (As st r i)) ((nth r.pkgs i).name)) 3 1))], 7⟩) (by kernel_rfl) (by kernel_rfl) (by kernel_rfl) Tryz.underlying90 Tryz.underlying9 (fun _ => by kernel_rfl) (by kernel_rfl) ?_
           refine B2 ⟨rfl, ?_⟩
           refine Ax [0, 3, 9, 69, 70, 71, 77, 80, 87, 91] ?_
           exact Bc m1_15
          ·refine Ba (fuel := 5) 17 [] Az ?_
           refine Ax [0, 3, 9, 69, 70, 71, 77, 80, 84, 86, 92] ?_
           exact Bc m1_16
         refine Cs (fuel := 8) [] [0, 1, 2, 4, 5, 6, 7, 8, 10, 11, 13, 14, 15] [0, 3, 9, 69, 70, 71, 77, 80, 83, 86, 90] Az ?_
         refine Fl 3 9 16 (by kernel_rfl) ?_ ?_ ?_
         ·refine Ba (fuel := 7) 3 [] Az ?_
          refine Ax [0, 3, 9, 69, 70, 71, 78, 80, 83, 86, 90] ?_
          refine Ce 9 16 (by kernel_rfl) ?_ ?_
          ·refine Ba (fuel := 6) 9 [] Az ?_
           refine Ax [0, 3, 9, 69, 70, 71, 78, 80, 84, 86, 90] ?_
           exact Bc m1_17
          ·refine Ba (fuel := 6) 16 [] Az ?_
           refine Ax [0, 3, 9, 69, 70, 71, 78, 80, 83, 86, 91] ?_
           exact Bc m1_18
         ·refine Ba (fuel := 7) 9 [] Az ?_
          refine Ax [0, 3, 9, 69, 70, 71, 77, 80, 84, 86, 90] ?_
          refine Fl 3 12 16 (by kernel_rfl) ?_ ?_ ?_
          ·refine Ba (fuel := 6) 3 [] Az ?_
           refine Ax [0, 3, 9, 69, 70, 71, 78, 80, 84, 86, 90] ?_
           exact Bc m1_17
          ·refine C4 (fuel := 6) 12 rfl ?_
           refine Ey (b := 3) (s := (nth r.pkgs i).name) (y := ⟨[(0, (.ptr 0 0)), (3, (.ptr 4 0)), (9, (.fp (Aq (nth r.pkgs i)))), (69, (Ai 12 Aq r.pkgs)), (70, (.int .i64 ((r.pkgs.length : Int)))), (71, (.int .i64 ((i : Int)))), (77, (.ptr 0 3)), (80, (.str ((nth r.pkgs i).name))), (84, (.map 3)), (86, (.str ((nth r.pkgs i).name))), (90, (.ptr 0 2)), (87, (.own 6))], [(0, (.row [(.int .i64 st.kind), (.own 1), (.own 2), (.map 3)] 92)), (1, (.grow (st.repos.map A8) 41 4)), (2, (.grow ((As st r i).map Bb) 97 13)), (3, (.mm (A7 (As st r i)) (some ((nth r.pkgs i).name)) 3 1)), (4, (.row [(.str r.name), (.int .i64 r.prio), (.bool r.inst), (Ai 12 Aq r.pkgs)] 41)), (6, (.grow ((A7 (As st r i)) ((nth r.pkgs i).name)) 3 1))], 7⟩) (by kernel_rfl) (by kernel_rfl) (by kernel_rfl) Tryz.underlying90 Tryz.underlying9 (fun _ => by kernel_rfl) (by kernel_rfl) ?_
           refine B2 ⟨rfl, ?_⟩
           refine Ax [0, 3, 9, 69, 70, 71, 77, 80, 87, 90] ?_
           refine Ce 3 16 (by kernel_rfl) ?_ ?_
           ·refine Ba (fuel := 5) 3 [] Az ?_
            refine Ax [0, 3, 9, 69, 70, 71, 78, 80, 87, 90] ?_
            exact Bc m1_12
           ·refine Ba (fuel := 5) 16 [] Az ?_
            refine Ax [0, 3, 9, 69, 70, 71, 77, 80, 87, 91] ?_
            exact Bc m1_15
          ·refine Ba (fuel := 6) 16 [] Az ?_
           refine Ax [0, 3, 9, 69, 70, 71, 77, 80, 84, 86, 91] ?_
           exact Bc m1_19
         ·refine Ba (fuel := 7) 16 [] Az ?_
          refine Ax [0, 3, 9, 69, 70, 71, 77, 80, 83, 86, 91] ?_
          refine Fl 3 9 17 (by kernel_rfl) ?_ ?_ ?_
          ·refine Ba (fuel := 6) 3 [] Az ?_
           refine Ax [0, 3, 9, 69, 70, 71, 78, 80, 83, 86, 91] ?_
           exact Bc m1_18
          ·refine Ba (fuel := 6) 9 [] Az ?_
           refine Ax [0, 3, 9, 69, 70, 71, 77, 80, 84, 86, 91] ?_
           exact Bc m1_19
          ·refine Ba (fuel := 6) 17 [] Az ?_
           refine Ax [0, 3, 9, 69, 70, 71, 77, 80, 83, 86, 92] ?_
           refine Fl 3 9 18 (by kernel_rfl) ?_ ?_ ?_
           ·refine Ba (fuel := 5) 3 [] Az ?_
            refine Ax [0, 3, 9, 69, 70, 71, 78, 80, 83, 86, 92] ?_
            exact Bc m1_14
           ·refine Ba (fuel := 5) 9 [] Az ?_
            refine Ax [0, 3, 9, 69, 70, 71, 77, 80, 84, 86, 92] ?_
            exact Bc m1_16
           ·refine Ba (fuel := 5) 18 [] Az ?_
            refine Ax [0, 3, 9, 69, 70, 71, 77, 80, 83, 86, 93] ?_
            refine Ce 3 9 (by kernel_rfl) ?_ ?_
            ·refine Ba (fuel := 4) 3 [] Az ?_
             refine Ax [0, 3, 9, 69, 70, 71, 78, 80, 83, 86, 93] ?_
             exact Bc m1_9
            ·refine Ba (fuel := 4) 9 [] Az ?_
             refine Ax [0, 3, 9, 69, 70, 71, 77, 80, 84, 86, 93] ?_
             exact Bc m1_11
        ·rintro y3 rfl
         refine Gh [] [0, 3, 69, 70, 71] [] (hk 6 Zj (Q0r (nth r.pkgs i) (by have := (nth r.pkgs i).sizes; have := hp i (by omega); omega) (by have := (nth r.pkgs i).sizes; have := Jw (nth r.pkgs i).files; have := hp i (by omega); omega)) <| hk0) v0 (cc 14 (p := ((((As st r i).map Bb).length + 1) * 264 ≤ 140737488355328)) (by first | omega | (simp; omega) | (simp; done) | (intros; simp_all; omega) | (intros; simp_all; done)) <| c0) ?_
         refine ⟨by kernel_rfl, (Eq.trans (b := (⟨[(0, (.ptr 0 0)), (3, (.ptr 4 0)), (69, (Ai 12 Aq r.pkgs)), (70, (.int .i64 ((r.pkgs.length : Int)))), (71, (.int .i64 ((i : Int))))], [(0, (.row [(.int .i64 st.kind), (.own 1), (.own 2), (.map 3)] 92)), (1, (.grow (st.repos.map A8) 41 4)), (2, (.grow (((As st r i).map Bb) ++ ([(.agg [(.str ((nth r.pkgs i).name)), (.str ((nth r.pkgs i).evr)), (.str ((nth r.pkgs i).arch)), (.str ((nth r.pkgs i).vendor)), (Ai 5 A9 ((nth r.pkgs i).provides)), (Ai 5 A9 ((nth r.pkgs i).requires)), (Ai 5 A9 ((nth r.pkgs i).pre)), (Ai 5 A9 ((nth r.pkgs i).conflicts)), (Ai 5 A9 ((nth r.pkgs i).obsoletes)), (Ai 5 A9 ((nth r.pkgs i).recommends)), (Ai 5 A9 ((nth r.pkgs i).supplements)), (Ct ((nth r.pkgs i).files)), (.int .i64 (((st.repos.map A8).length : Int)))])] : List AV)) 97 13)), (3, (.mm (A7 (As st r i ++ [(nth r.pkgs i, (st.repos.length : Int))])) none 3 1)), (4, (.row [(.str r.name), (.int .i64 r.prio), (.bool r.inst), (Ai 12 Aq r.pkgs)] 41))], 5⟩ : St)) (by kernel_rfl) (by rw [show (((As st r i).map Bb) ++ ([(.agg [(.str ((nth r.pkgs i).name)), (.str ((nth r.pkgs i).evr)), (.str ((nth r.pkgs i).arch)), (.str ((nth r.pkgs i).vendor)), (Ai 5 A9 ((nth r.pkgs i).provides)), (Ai 5 A9 ((nth r.pkgs i).requires)), (Ai 5 A9 ((nth r.pkgs i).pre)), (Ai 5 A9 ((nth r.pkgs i).conflicts)), (Ai 5 A9 ((nth r.pkgs i).obsoletes)), (Ai 5 A9 ((nth r.pkgs i).recommends)), (Ai 5 A9 ((nth r.pkgs i).supplements)), (Ct ((nth r.pkgs i).files)), (.int .i64 (((st.repos.map A8).length : Int)))])] : List AV)) = (As st r i ++ [(nth r.pkgs i, (st.repos.length : Int))]).map Bb from by rw [List.map_append, List.length_map]; rfl] <;> kernel_rfl))⟩
       ·rintro y2 rfl
        refine Ar ?_
        refine Aw 0 [] [0, 3, 69, 70, 71] [] hk0 v0 (cc 0 (p := (-9223372036854775808 ≤ (i : Int) + 1 ∧ (i : Int) + 1 ≤ 9223372036854775807)) (by first | omega | (simp; omega) | (simp; done) | (intros; simp_all; omega) | (intros; simp_all; done)) <| c0) ?_
        refine ⟨by kernel_rfl, _, ?_, i + 1, ?_, (Eq.trans (b := (⟨[(0, (.ptr 0 0)), (3, (.ptr 4 0)), (69, (Ai 12 Aq r.pkgs)), (70, (.int .i64 ((r.pkgs.length : Int)))), (71, (.int .i64 ((i : Int) + 1)))], [(0, (.row [(.int .i64 st.kind), (.own 1), (.own 2), (.map 3)] 92)), (1, (.grow (st.repos.map A8) 41 4)), (2, (.grow ((As st r i ++ [(nth r.pkgs i, (st.repos.length : Int))]).map Bb) 97 13)), (3, (.mm (A7 (As st r i ++ [(nth r.pkgs i, (st.repos.length : Int))])) none 3 1)), (4, (.row [(.str r.name), (.int .i64 r.prio), (.bool r.inst), (Ai 12 Aq r.pkgs)] 41))], 5⟩ : St)) (by kernel_rfl) (by rw [← Q8a (by omega)] <;> kernel_rfl)), rfl⟩
        ·omega
        ·omega
      ·refine Bj ?_
       refine Aa [] [0, 3] ?_
       refine Da (fun y => y = ⟨[], [(0, (.row [(.int .i64 st.kind), (.own 1), (.own 2), (.map 3)] 92)), (1, (.grow ((st.repos ++ [r]).map A8) 41 4)), (2, (.grow ((As st r i).map Bb) 97 13)), (3, (.mm (A7 (As st r i)) none 3 1)), (4, (.row [(.str r.name), (.int .i64 r.prio), (.bool r.inst), .nils] 41))], 5⟩) [] 5 (by omega) ?_ ?_
       ·refine Gh [] [] [] hk0 v0 (cc 7 (p := (((st.repos.map A8).length + 1) * 56 ≤ 140737488355328)) (by first | omega | (simp; omega) | (simp; done) | (intros; simp_all; omega) | (intros; simp_all; done)) <| c0) ?_
        refine ⟨by kernel_rfl, (Eq.trans (b := (⟨[], [(0, (.row [(.int .i64 st.kind), (.own 1), (.own 2), (.map 3)] 92)), (1, (.grow ((st.repos.map A8) ++ ([(.agg [(.str r.name), (.int .i64 r.prio), (.bool r.inst), .nils])] : List AV)) 41 4)), (2, (.grow ((As st r i).map Bb) 97 13)), (3, (.mm (A7 (As st r i)) none 3 1)), (4, (.row [(.str r.name), (.int .i64 r.prio), (.bool r.inst), .nils] 41))], 5⟩ : St)) (by kernel_rfl) (by rw [show ((st.repos.map A8) ++ ([(.agg [(.str r.name), (.int .i64 r.prio), (.bool r.inst), .nils])] : List AV)) = (st.repos ++ [r]).map A8 from by rw [List.map_append]; rfl] <;> kernel_rfl))⟩
       ·rintro y4 rfl
        refine Aa [] [4] ?_
        refine Af ?_
        refine E4 (.inl rfl) (al := [(.int .i64 0)]) (by kernel_rfl) ?_ ((by kernel_rfl : Dk 4 _ = some [(0, (.row [(.int .i64 st.kind), (.own 1), (.own 2), (.map 3)] 92)), (1, (.grow ((st.repos ++ [r]).map A8) 41 4)), (2, (.grow ((As st r i).map Bb) 97 13)), (3, (.mm (A7 (As st r i)) none 3 1))]).trans ?_)
        all_goals have hE : B8 st r = 0 := by unfold B8; rw [if_neg (by simp only [not_or]; simp_all), if_neg (by rintro ⟨h1, h2⟩; rw [h1, h2] at c2; simp at c2), if_neg (by omega)]; exact Yx fun j hj => f1_2 j (by omega)
        ·rw [hE]; rfl
        ·unfold B4; rw [if_pos hE, show i = r.pkgs.length from by omega]
end Sv
end Go.Proofs.YtlfjokcbkopfeaaGreatDoor
end
section
namespace Go.Proofs.YtlfjokcbkopfeaaGreatDoor
open Go Go.RowKit
namespace Sv
attribute [local irreducible] SW SO Bg
theorem X0a : Am Tryz.prog 41 := Av Tryz.func41 (by kernel_rfl) rfl
noncomputable def atX (p : Int × Int) : AV := .agg [.int .i64 p.1, .int .i64 p.2]
def Ck (pl : List (Int × Int)) (st : PoolT) (r : RepoT) (i : Nat) : List (Int × Int) := pl ++ (List.range i).map fun (k : Nat) => ((st.repos.length : Int), (k : Int))
def En (pl : List (Int × Int)) (st : PoolT) (r : RepoT) : List (Int × Int) := if B8 st r = 0 then Ck pl st r r.pkgs.length else pl
theorem M2 {pl : List (Int × Int)} {st : PoolT} {r : RepoT} {e : Int} (h : B8 st r = e) (he : e ≠ 0) : En pl st r = pl := by unfold En; rw [if_neg (by rw [h]; exact he)]
theorem X2u {pl : List (Int × Int)} {st : PoolT} {r : RepoT} {i : Nat} : Ck pl st r (i + 1) = Ck pl st r i ++ [((st.repos.length : Int), (i : Int))] := by
 unfold Ck
 rw [List.range_succ, List.map_append, List.append_assoc]; rfl
theorem X2v {pl : List (Int × Int)} {st : PoolT} {r : RepoT} {i : Nat} : (Ck pl st r i).length = pl.length + i := by unfold Ck; simp
theorem Q1n {α : Type} [Inhabited α] {p : α → Bool} {l : List α} {i : Nat} (hi : i < l.length) (h : p (nth l i) = true) : l.any p = true := by
 rw [List.any_eq_true]
 exact ⟨nth l i, by simp [nth, hi], h⟩
theorem J3 {α : Type} [Inhabited α] {p : α → Bool} {l : List α} (h : ∀ i, i < l.length → p (nth l i) = false) : l.any p = false := by
 rw [List.any_eq_false]
 intro x hx
 obtain ⟨j, hj, rfl⟩ := List.getElem_of_mem hx
 have := h j hj
 simpa [nth, hj] using this
set_option maxHeartbeats 1000000 in
set_option maxRecDepth 100000 in
theorem Q5i (st : PoolT) (pl : List (Int × Int)) (r : RepoT) (hr : st.repos.length ≤ 8) (ha : st.all.length ≤ 200) (hpa : pl.length = st.all.length) (hn : r.name.length ≤ 4194304) (hpl : r.pkgs.length ≤ 4194304) (hp : ∀ i, i < r.pkgs.length → (nth r.pkgs i).size ≤ 4194304) :
  Gk Tryz.prog 41 [(.ptr 0 0), (.agg [(.str r.name), (.int .i64 r.prio), (.bool r.inst), (Ai 12 Aq r.pkgs)])] [(0, (.row [(.int .i64 st.kind), (.own 1), (.own 2)] 107)), (1, (.grow (st.repos.map Bd) 41 4)), (2, (.grow (pl.map atX) 128 2))] 3 (.int .i64 (B8 st r)) [(0, (.row [(.int .i64 ((B4 st r).kind)), (.own 1), (.own 2)] 107)), (1, (.grow ((B4 st r).repos.map Bd) 41 4)), (2, (.grow ((En pl st r).map atX) 128 2))] := by
 have hml : (st.repos.map Bd).length = st.repos.length := List.length_map _
 have hma : (pl.map atX).length = pl.length := List.length_map _
 refine Nc [.tmp 4] Tryz.func41 rfl Tryz.ntmps41 rfl rfl (by kernel_rfl) (by kernel_rfl) (by kernel_rfl) (fun B F hF => ?_)
 refine Ad [] [0, 3] [(1, 3)] hk0 v0 c0 ?_
 refine Ad [] [0, 3, 5] [] (hk 2 Mq (Nz r.name (by omega)) <| hk0) v0 c0 ?_
 refine Ab ?_
 refine Aa [] [0, 3, 15] ?_
 refine A3 (q := !(Bh r.name)) (by kernel_rfl) (fun c1 => ?_) (fun c1 => ?_)
 ·try simp only [Bool.and_eq_true, Bool.or_eq_true, Bool.and_eq_false_iff, Bool.or_eq_false_iff, Bool.not_eq_true', Bool.not_eq_false', decide_eq_true_eq, decide_eq_false_iff_not] at c1
  refine Aa [] [4] ?_
  refine Af ?_
  refine E4 (.inl rfl) (al := [(.int .i64 66)]) (by kernel_rfl) ?_ ((by kernel_rfl : Dk 3 _ = some [(0, (.row [(.int .i64 st.kind), (.own 1), (.own 2)] 107)), (1, (.grow (st.repos.map Bd) 41 4)), (2, (.grow (pl.map atX) 128 2))]).trans ?_)
  all_goals have hE : B8 st r = 66 := by unfold B8; rw [if_pos (.inl c1)]
  ·rw [hE]; rfl
  ·rw [Ia hE (by decide), M2 hE (by decide)]
 ·try simp only [Bool.and_eq_true, Bool.or_eq_true, Bool.and_eq_false_iff, Bool.or_eq_false_iff, Bool.not_eq_true', Bool.not_eq_false', decide_eq_true_eq, decide_eq_false_iff_not] at c1
  refine Ag ?_
  refine Ab ?_
  refine Aa [] [0, 3, 6] ?_
  refine A0 ?_
  refine Bq (fun g y => ∃ (i : Nat), i ≤ st.repos.length ∧ (∀ j, j < i → ¬ (nth st.repos j).name = r.name) ∧ y = ⟨[(0, (.ptr 0 0)), (3, (.fp (.agg [(.str r.name), (.int .i64 r.prio), (.bool r.inst), (Ai 12 Aq r.pkgs)]))), (6, (.int .i64 ((i : Int))))], [(0, (.row [(.int .i64 st.kind), (.own 1), (.own 2)] 107)), (1, (.grow (st.repos.map Bd) 41 4)), (2, (.grow (pl.map atX) 128 2))], 4⟩ ∧ g = st.repos.length - i) [0, 3, 6] 4 _ (by omega) ⟨0, (by omega), (by exact fun j hj => by omega), (by kernel_rfl), rfl⟩ ?_
  rintro g1 y1 ⟨i, f1_1, f1_2, rfl, rfl⟩
  refine Ab ?_
  refine Aa [] [0, 3, 6, 22] ?_
  refine A2 (p := (i : Int) < ((st.repos.map Bd).length : Int)) (by kernel_rfl) (fun c2 => ?_) (fun c2 => ?_)
  ·refine Ag ?_
   refine Ab ?_
   refine A0 ?_
   refine Ab ?_
   refine I3 (by kernel_rfl) (fun F1 hF1 => ?_)
   refine Cs (fuel := 5) [] [0, 1, 2, 4, 8, 9] [0, 3, 6, 27, 29, 34] Az ?_
   refine Cq (fuel := 4) 3 [] Az ?_
   refine F4 (fuel := 3) 5 (by kernel_rfl) ?_
   refine C4 (fuel := 3) 5 rfl ?_
   refine P0 (b := 1) (i := i) (es := st.repos.map Bd) (e := 41) (sz := 4) (k := .i64) (s' := [(0, (.ptr 0 0)), (3, (.fp (.agg [(.str r.name), (.int .i64 r.prio), (.bool r.inst), (Ai 12 Aq r.pkgs)]))), (6, (.int .i64 ((i : Int)))), (27, (.ptr 0 1)), (29, (.int .i64 ((i : Int)))), (34, (.str r.name)), (28, (.own 1)), (30, (.op 1 (i * 4)))]) (by kernel_rfl) (by kernel_rfl) (by kernel_rfl) (by kernel_rfl) (by kernel_rfl) (by kernel_rfl) (by (rw [List.length_map]; omega)) (by kernel_rfl) ?_
   refine B2 ⟨rfl, ?_⟩
   refine F4 (fuel := 2) 6 (by kernel_rfl) ?_
   refine C4 (fuel := 2) 6 rfl ?_
   refine Tr (b := 1) (o := i * 4) (off := 0) (s' := [(0, (.ptr 0 0)), (3, (.fp (.agg [(.str r.name), (.int .i64 r.prio), (.bool r.inst), (Ai 12 Aq r.pkgs)]))), (6, (.int .i64 ((i : Int)))), (27, (.ptr 0 1)), (29, (.int .i64 ((i : Int)))), (34, (.str r.name)), (28, (.own 1)), (30, (.op 1 (i * 4))), (31, (.op 1 (i * 4 + 0)))]) (by kernel_rfl) (by kernel_rfl) (by kernel_rfl) (by kernel_rfl) ?_
   refine B2 ⟨rfl, ?_⟩
   refine F4 (fuel := 1) 7 (by kernel_rfl) ?_
   refine C4 (fuel := 1) 7 rfl ?_
   refine Tq (b := 1) (e := 41) (sz := 4) (es := st.repos.map Bd) (o := i * 4 + 0) (i := i) (j := 0) (a := (.agg [(.str ((nth st.repos i).name)), (.int .i64 ((nth st.repos i).prio)), (.bool ((nth st.repos i).inst)), (Ai 12 Aq ((nth st.repos i).pkgs))])) (r := (.str ((nth st.repos i).name))) (s' := [(0, (.ptr 0 0)), (3, (.fp (.agg [(.str r.name), (.int .i64 r.prio), (.bool r.inst), (Ai 12 Aq r.pkgs)]))), (6, (.int .i64 ((i : Int)))), (27, (.ptr 0 1)), (29, (.int .i64 ((i : Int)))), (34, (.str r.name)), (28, (.own 1)), (30, (.op 1 (i * 4))), (31, (.op 1 (i * 4 + 0))), (32, (.str ((nth st.repos i).name)))]) (by kernel_rfl) (by kernel_rfl) rfl (by kernel_rfl) (Oy (l := st.repos) Bd (by omega)) (by kernel_rfl) (by kernel_rfl) ?_
   refine B2 ⟨rfl, ?_⟩
   refine Cs (fuel := 0) [] [10] [0, 3, 6, 35] Az ?_
   refine Ax [0, 3, 6, 35] ?_
   refine Gj (by kernel_rfl) ?_
   refine A2 (p := (nth st.repos i).name = r.name) (by kernel_rfl) (fun c3 => ?_) (fun c3 => ?_)
   ·refine Aa [] [4] ?_
    refine Af ?_
    refine E4 (.inl rfl) (al := [(.int .i64 66)]) (by kernel_rfl) ?_ ((by kernel_rfl : Dk 3 _ = some [(0, (.row [(.int .i64 st.kind), (.own 1), (.own 2)] 107)), (1, (.grow (st.repos.map Bd) 41 4)), (2, (.grow (pl.map atX) 128 2))]).trans ?_)
    all_goals have hE : B8 st r = 66 := by unfold B8; rw [if_pos (.inr (Q1n (i := i) (by omega) (decide_eq_true (by assumption))))]
    ·rw [hE]; rfl
    ·rw [Ia hE (by decide), M2 hE (by decide)]
   ·refine Ag ?_
    refine Ar ?_
    refine Aw 0 [] [0, 3, 6] [] hk0 v0 (cc 1 (p := (-9223372036854775808 ≤ (i : Int) + 1 ∧ (i : Int) + 1 ≤ 9223372036854775807)) (by first | omega | (simp; omega) | (simp; done) | (intros; simp_all; omega) | (intros; simp_all; done)) <| c0) ?_
    refine ⟨by kernel_rfl, _, ?_, i + 1, ?_, ?_, (by kernel_rfl), rfl⟩
    ·omega
    ·omega
    ·intro j hj
     by_cases h : j = i
     ·subst h; assumption
     ·exact f1_2 j (by omega)
  ·refine Bj ?_
   refine Ab ?_
   refine Aa [] [0, 3, 7] ?_
   refine A0 ?_
   refine Bq (fun g y => ∃ (i : Nat), i ≤ st.repos.length ∧ (∀ j, j < i → (r.inst && (nth st.repos j).inst) = false) ∧ y = ⟨[(0, (.ptr 0 0)), (3, (.fp (.agg [(.str r.name), (.int .i64 r.prio), (.bool r.inst), (Ai 12 Aq r.pkgs)]))), (7, (.int .i64 ((i : Int))))], [(0, (.row [(.int .i64 st.kind), (.own 1), (.own 2)] 107)), (1, (.grow (st.repos.map Bd) 41 4)), (2, (.grow (pl.map atX) 128 2))], 4⟩ ∧ g = st.repos.length - i) [0, 3, 7] 4 _ (by omega) ⟨0, (by omega), (by exact fun j hj => by omega), (by kernel_rfl), rfl⟩ ?_
   rintro g2 y2 ⟨i, f2_1, f2_2, rfl, rfl⟩
   refine Ab ?_
   refine Aa [] [0, 3, 7, 42] ?_
   refine A2 (p := (i : Int) < ((st.repos.map Bd).length : Int)) (by kernel_rfl) (fun c4 => ?_) (fun c4 => ?_)
   ·refine Ag ?_
    refine Ab ?_
    refine A0 ?_
    refine Ab ?_
    refine Ar ?_
    refine Bv 3 0 [] [0, 3, 7, 47] [] hk0 v0 c0 ?_
    refine Tg r.inst (fun c5 => ?_) (fun c5 => ?_)
    ·refine Gi 47 (a := .bool r.inst) (.bool true) (by kernel_rfl) (Imp.of_eq (by rw [c5])) ?_
     refine Bv 5 3 [] [0, 3, 7, 47, 51, 52] [] hk0 v0 c0 ?_
     refine P0 (b := 1) (i := i) (es := st.repos.map Bd) (e := 41) (sz := 4) (k := .i64) (s' := [(0, (.ptr 0 0)), (3, (.fp (.agg [(.str r.name), (.int .i64 r.prio), (.bool r.inst), (Ai 12 Aq r.pkgs)]))), (7, (.int .i64 ((i : Int)))), (47, (.bool true)), (51, (.own 1)), (52, (.int .i64 ((i : Int)))), (53, (.op 1 (i * 4)))]) (by kernel_rfl) (by kernel_rfl) (by kernel_rfl) (by kernel_rfl) (by kernel_rfl) (by kernel_rfl) (by (rw [List.length_map]; omega)) (by kernel_rfl) ?_
     refine Tr (b := 1) (o := i * 4) (off := 2) (s' := [(0, (.ptr 0 0)), (3, (.fp (.agg [(.str r.name), (.int .i64 r.prio), (.bool r.inst), (Ai 12 Aq r.pkgs)]))), (7, (.int .i64 ((i : Int)))), (47, (.bool true)), (51, (.own 1)), (52, (.int .i64 ((i : Int)))), (53, (.op 1 (i * 4))), (54, (.op 1 (i * 4 + 2)))]) (by kernel_rfl) (by kernel_rfl) (by kernel_rfl) (by kernel_rfl) ?_
     refine Tq (b := 1) (e := 41) (sz := 4) (es := st.repos.map Bd) (o := i * 4 + 2) (i := i) (j := 2) (a := (.agg [(.str ((nth st.repos i).name)), (.int .i64 ((nth st.repos i).prio)), (.bool ((nth st.repos i).inst)), (Ai 12 Aq ((nth st.repos i).pkgs))])) (r := (.bool ((nth st.repos i).inst))) (s' := [(0, (.ptr 0 0)), (3, (.fp (.agg [(.str r.name), (.int .i64 r.prio), (.bool r.inst), (Ai 12 Aq r.pkgs)]))), (7, (.int .i64 ((i : Int)))), (47, (.bool true)), (51, (.own 1)), (52, (.int .i64 ((i : Int)))), (53, (.op 1 (i * 4))), (54, (.op 1 (i * 4 + 2))), (55, (.bool ((nth st.repos i).inst)))]) (by kernel_rfl) (by kernel_rfl) rfl (by kernel_rfl) (Oy (l := st.repos) Bd (by omega)) (by kernel_rfl) (by kernel_rfl) ?_
     refine Aw 11 [] [0, 3, 7, 56] [] hk0 v0 c0 ?_
     refine A3 (q := (nth st.repos i).inst) (by kernel_rfl) (fun c6 => ?_) (fun c6 => ?_)
     ·try simp only [Bool.and_eq_true, Bool.or_eq_true, Bool.and_eq_false_iff, Bool.or_eq_false_iff, Bool.not_eq_true', Bool.not_eq_false', decide_eq_true_eq, decide_eq_false_iff_not] at c6
      refine Aa [] [4] ?_
      refine Af ?_
      refine E4 (.inl rfl) (al := [(.int .i64 67)]) (by kernel_rfl) ?_ ((by kernel_rfl : Dk 3 _ = some [(0, (.row [(.int .i64 st.kind), (.own 1), (.own 2)] 107)), (1, (.grow (st.repos.map Bd) 41 4)), (2, (.grow (pl.map atX) 128 2))]).trans ?_)
      all_goals have hN := J3 (l := st.repos) (p := fun o => decide (o.name = r.name)) (fun j hj => by simpa using f1_2 j (by omega))
      all_goals have hA : ¬ (Bh r.name = false ∨ st.repos.any (fun o => decide (o.name = r.name)) = true) := fun h => h.elim (fun h => by rw [c1] at h; cases h) (fun h => by rw [hN] at h; cases h)
      all_goals have hE : B8 st r = 67 := by unfold B8; rw [if_neg hA, if_pos ⟨by assumption, Q1n (i := i) (by omega) (by assumption)⟩]
      ·rw [hE]; rfl
      ·rw [Ia hE (by decide), M2 hE (by decide)]
     ·try simp only [Bool.and_eq_true, Bool.or_eq_true, Bool.and_eq_false_iff, Bool.or_eq_false_iff, Bool.not_eq_true', Bool.not_eq_false', decide_eq_true_eq, decide_eq_false_iff_not] at c6
      refine Ag ?_
      refine Ar ?_
      refine Aw 0 [] [0, 3, 7] [] hk0 v0 (cc 1 (p := (-9223372036854775808 ≤ (i : Int) + 1 ∧ (i : Int) + 1 ≤ 9223372036854775807)) (by first | omega | (simp; omega) | (simp; done) | (intros; simp_all; omega) | (intros; simp_all; done)) <| c0) ?_
      refine ⟨by kernel_rfl, _, ?_, i + 1, ?_, ?_, (by kernel_rfl), rfl⟩
      ·omega
      ·omega
      ·intro j hj
       by_cases h : j = i
       ·subst h; simp_all
       ·exact f2_2 j (by omega)
    ·refine Gi 47 (a := .bool r.inst) (.bool false) (by kernel_rfl) (Imp.of_eq (by rw [c5])) ?_
     refine Aw 3 [] [0, 3, 7, 56] [] hk0 v0 c0 ?_
     refine D6 (by kernel_rfl) ?_
     refine Ag ?_
     refine Ar ?_
     refine Aw 0 [] [0, 3, 7] [] hk0 v0 (cc 1 (p := (-9223372036854775808 ≤ (i : Int) + 1 ∧ (i : Int) + 1 ≤ 9223372036854775807)) (by first | omega | (simp; omega) | (simp; done) | (intros; simp_all; omega) | (intros; simp_all; done)) <| c0) ?_
     refine ⟨by kernel_rfl, _, ?_, i + 1, ?_, ?_, (by kernel_rfl), rfl⟩
     ·omega
     ·omega
     ·intro j hj
      by_cases h : j = i
      ·subst h; simp_all
      ·exact f2_2 j (by omega)
   ·refine Bj ?_
    refine Ab ?_
    refine Da (fun y => y = ⟨[(0, (.ptr 0 0)), (3, (.fp (.agg [(.str r.name), (.int .i64 r.prio), (.bool r.inst), (Ai 12 Aq r.pkgs)]))), (74, (.bool (decide ((8 : Int) ≤ ((st.repos.map Bd).length : Int)) || decide ((200 : Int) < ((pl.map atX).length : Int) + (r.pkgs.length : Int)))))], [(0, (.row [(.int .i64 st.kind), (.own 1), (.own 2)] 107)), (1, (.grow (st.repos.map Bd) 41 4)), (2, (.grow (pl.map atX) 128 2))], 4⟩) [0, 3, 74] 4 (by omega) ?_ ?_
    ·refine Gh (CS := [(8, ((!(decide (8 ≤ ((st.repos.map Bd).length : Int)))) = true → (!(decide (8 ≤ ((st.repos.map Bd).length : Int)))) = true)), (9, ((!(decide (8 ≤ ((st.repos.map Bd).length : Int)))) = true → (!(decide (8 ≤ ((st.repos.map Bd).length : Int)))) = true)), (10, ((!(decide (8 ≤ ((st.repos.map Bd).length : Int)))) = true → (!(decide (8 ≤ ((st.repos.map Bd).length : Int)))) = true)), (11, ((!(decide (8 ≤ ((st.repos.map Bd).length : Int)))) = true → (!(decide (8 ≤ ((st.repos.map Bd).length : Int)))) = true)), (13, ((!(decide (8 ≤ ((st.repos.map Bd).length : Int)))) = true → (!(decide (8 ≤ ((st.repos.map Bd).length : Int)))) = true)), (14, ((!(decide (8 ≤ ((st.repos.map Bd).length : Int)))) = true → (!(decide (8 ≤ ((st.repos.map Bd).length : Int)))) = true)), (15, ((!(decide (8 ≤ ((st.repos.map Bd).length : Int)))) = true → ((!(decide (8 ≤ ((st.repos.map Bd).length : Int)))) = true ∧ (!(decide (8 ≤ ((st.repos.map Bd).length : Int)))) = true) ∧ (-9223372036854775808 ≤ ((pl.map atX).length : Int) + (r.pkgs.length : Int) ∧ ((pl.map atX).length : Int) + (r.pkgs.length : Int) ≤ 9223372036854775807))), (16, ((!(decide (8 ≤ ((st.repos.map Bd).length : Int)))) = true → (!(decide (8 ≤ ((st.repos.map Bd).length : Int)))) = true)), (17, ((decide (8 ≤ ((st.repos.map Bd).length : Int))) = false → (!(decide (8 ≤ ((st.repos.map Bd).length : Int)))) = true))]) [64, 65, 66, 67, 68, 69, 70, 71, 72, 73] [0, 3, 74] [] hk0 v0 (by refine cc _ ?_ <| cc _ ?_ <| cc _ ?_ <| cc _ ?_ <| cc _ ?_ <| cc _ ?_ <| cc _ ?_ <| cc _ ?_ <| cc _ ?_ c0 <;> first | omega | (simp; omega) | (simp; done) | (intros; simp_all; omega) | (intros; simp_all; done)) ?_
     refine ⟨by kernel_rfl, (by kernel_rfl)⟩
    ·rintro y1 rfl
     refine A3 (q := decide ((8 : Int) ≤ ((st.repos.map Bd).length : Int)) || decide ((200 : Int) < ((pl.map atX).length : Int) + (r.pkgs.length : Int))) (by kernel_rfl) (fun c7 => ?_) (fun c7 => ?_)
     ·try simp only [Bool.and_eq_true, Bool.or_eq_true, Bool.and_eq_false_iff, Bool.or_eq_false_iff, Bool.not_eq_true', Bool.not_eq_false', decide_eq_true_eq, decide_eq_false_iff_not] at c7
      refine Aa [] [4] ?_
      refine Af ?_
      refine E4 (.inl rfl) (al := [(.int .i64 68)]) (by kernel_rfl) ?_ ((by kernel_rfl : Dk 3 _ = some [(0, (.row [(.int .i64 st.kind), (.own 1), (.own 2)] 107)), (1, (.grow (st.repos.map Bd) 41 4)), (2, (.grow (pl.map atX) 128 2))]).trans ?_)
      all_goals have hN := J3 (l := st.repos) (p := fun o => decide (o.name = r.name)) (fun j hj => by simpa using f1_2 j (by omega))
      all_goals have hA : ¬ (Bh r.name = false ∨ st.repos.any (fun o => decide (o.name = r.name)) = true) := fun h => h.elim (fun h => by rw [c1] at h; cases h) (fun h => by rw [hN] at h; cases h)
      all_goals have hI : ¬ (r.inst = true ∧ st.repos.any (fun o => o.inst) = true) := fun ⟨h1, h2⟩ => by rw [J3 (fun j hj => by have := f2_2 j (by omega); simpa [h1] using this)] at h2; cases h2
      all_goals have hE : B8 st r = 68 := by unfold B8; rw [if_neg hA, if_neg hI, if_pos (by omega)]
      ·rw [hE]; rfl
      ·rw [Ia hE (by decide), M2 hE (by decide)]
     ·try simp only [Bool.and_eq_true, Bool.or_eq_true, Bool.and_eq_false_iff, Bool.or_eq_false_iff, Bool.not_eq_true', Bool.not_eq_false', decide_eq_true_eq, decide_eq_false_iff_not] at c7
      refine Ag ?_
      refine Ab ?_
      refine Aa [] [0, 3, 8] ?_
      refine A0 ?_
      refine Bq (fun g y => ∃ (i : Nat), i ≤ r.pkgs.length ∧ (∀ j, j < i → C0 (nth r.pkgs j) = 0) ∧ y = ⟨[(0, (.ptr 0 0)), (3, (.fp (.agg [(.str r.name), (.int .i64 r.prio), (.bool r.inst), (Ai 12 Aq r.pkgs)]))), (8, (.int .i64 ((i : Int))))], [(0, (.row [(.int .i64 st.kind), (.own 1), (.own 2)] 107)), (1, (.grow (st.repos.map Bd) 41 4)), (2, (.grow (pl.map atX) 128 2))], 4⟩ ∧ g = r.pkgs.length - i) [0, 3, 8] 4 _ (by omega) ⟨0, (by omega), (by exact fun j hj => by omega), (by kernel_rfl), rfl⟩ ?_
      rintro g3 y3 ⟨i, f3_1, f3_2, rfl, rfl⟩
      refine Ab ?_
      refine Aa [] [0, 3, 8, 79] ?_
      refine A2 (p := (i : Int) < (r.pkgs.length : Int)) (by kernel_rfl) (fun c8 => ?_) (fun c8 => ?_)
      ·refine Ag ?_
       refine Ab ?_
       refine A0 ?_
       refine Ad [] [0, 3, 8, 9] [] (hk 5 Q9q (Q5f (nth r.pkgs i) (hp i (by omega))) <| hk0) v0 (cc 3 (p := (0 ≤ (i : Int) ∧ i < r.pkgs.length)) (by first | omega | (simp; omega) | (simp; done) | (intros; simp_all; omega) | (intros; simp_all; done)) <| c0) ?_
       refine Aa [] [0, 3, 8, 9, 89] ?_
       refine Cm (p := (C0 (nth r.pkgs i)) = 0) (by kernel_rfl) (fun c9 => ?_) (fun c9 => ?_)
       ·refine Aa [] [4] ?_
        refine Af ?_
        refine E4 (.inl rfl) (al := [(.int .i64 (C0 (nth r.pkgs i)))]) (by kernel_rfl) ?_ ((by kernel_rfl : Dk 3 _ = some [(0, (.row [(.int .i64 st.kind), (.own 1), (.own 2)] 107)), (1, (.grow (st.repos.map Bd) 41 4)), (2, (.grow (pl.map atX) 128 2))]).trans ?_)
        all_goals have hN := J3 (l := st.repos) (p := fun o => decide (o.name = r.name)) (fun j hj => by simpa using f1_2 j (by omega))
        all_goals have hA : ¬ (Bh r.name = false ∨ st.repos.any (fun o => decide (o.name = r.name)) = true) := fun h => h.elim (fun h => by rw [c1] at h; cases h) (fun h => by rw [hN] at h; cases h)
        all_goals have hI : ¬ (r.inst = true ∧ st.repos.any (fun o => o.inst) = true) := fun ⟨h1, h2⟩ => by rw [J3 (fun j hj => by have := f2_2 j (by omega); simpa [h1] using this)] at h2; cases h2
        all_goals have hE : B8 st r = C0 (nth r.pkgs i) := by unfold B8; rw [if_neg hA, if_neg hI, if_neg (by omega)]; exact R9 (by omega) f3_2 (by assumption)
        ·rw [hE]; rfl
        ·rw [Ia hE (by assumption), M2 hE (by assumption)]
       ·refine Ag ?_
        refine Ar ?_
        refine Aw 0 [] [0, 3, 8] [] hk0 v0 (cc 1 (p := (-9223372036854775808 ≤ (i : Int) + 1 ∧ (i : Int) + 1 ≤ 9223372036854775807)) (by first | omega | (simp; omega) | (simp; done) | (intros; simp_all; omega) | (intros; simp_all; done)) <| c0) ?_
        refine ⟨by kernel_rfl, _, ?_, i + 1, ?_, ?_, (by kernel_rfl), rfl⟩
        ·omega
        ·omega
        ·intro j hj
         by_cases h : j = i
         ·subst h; simp_all
         ·exact f3_2 j (by omega)
      ·refine Bj ?_
       refine Ab ?_
       refine Aa [] [0, 3, 10] ?_
       refine A0 ?_
       refine Bq (fun g y => ∃ (i : Nat), i ≤ r.pkgs.length ∧ y = ⟨[(0, (.ptr 0 0)), (3, (.fp (.agg [(.str r.name), (.int .i64 r.prio), (.bool r.inst), (Ai 12 Aq r.pkgs)]))), (10, (.int .i64 ((i : Int))))], [(0, (.row [(.int .i64 st.kind), (.own 1), (.own 2)] 107)), (1, (.grow (st.repos.map Bd) 41 4)), (2, (.grow ((Ck pl st r i).map atX) 128 2))], 4⟩ ∧ g = r.pkgs.length - i) [0, 3, 10] 4 _ (by omega) ⟨0, (by omega), (Eq.trans (b := (⟨[(0, (.ptr 0 0)), (3, (.fp (.agg [(.str r.name), (.int .i64 r.prio), (.bool r.inst), (Ai 12 Aq r.pkgs)]))), (10, (.int .i64 0))], [(0, (.row [(.int .i64 st.kind), (.own 1), (.own 2)] 107)), (1, (.grow (st.repos.map Bd) 41 4)), (2, (.grow (pl.map atX) 128 2))], 4⟩ : St)) (by kernel_rfl) (by rw [show Ck pl st r 0 = pl from by simp [Ck]] <;> rfl)), rfl⟩ ?_
       rintro g4 y4 ⟨i, f4_1, rfl, rfl⟩
       have hkl : ((Ck pl st r i).map atX).length ≤ 200 := by rw [List.length_map, X2v]; omega
       refine Ab ?_
       refine Aa [] [0, 3, 10, 95] ?_
       refine A2 (p := (i : Int) < (r.pkgs.length : Int)) (by kernel_rfl) (fun c10 => ?_) (fun c10 => ?_)
       ·refine Ag ?_
        refine Da (fun y => y = ⟨[(0, (.ptr 0 0)), (3, (.fp (.agg [(.str r.name), (.int .i64 r.prio), (.bool r.inst), (Ai 12 Aq r.pkgs)]))), (10, (.int .i64 ((i : Int))))], [(0, (.row [(.int .i64 st.kind), (.own 1), (.own 2)] 107)), (1, (.grow (st.repos.map Bd) 41 4)), (2, (.grow ((Ck pl st r (i + 1)).map atX) 128 2))], 4⟩) [0, 3, 10] 4 (by omega) ?_ ?_
        ·refine A0 ?_
         refine Gh [] [0, 3, 10] [] hk0 v0 (cc 13 (p := ((((Ck pl st r i).map atX).length + 1) * 16 ≤ 140737488355328)) (by first | omega | (simp; omega) | (simp; done) | (intros; simp_all; omega) | (intros; simp_all; done)) <| c0) ?_
         refine ⟨by kernel_rfl, (Eq.trans (b := (⟨[(0, (.ptr 0 0)), (3, (.fp (.agg [(.str r.name), (.int .i64 r.prio), (.bool r.inst), (Ai 12 Aq r.pkgs)]))), (10, (.int .i64 ((i : Int))))], [(0, (.row [(.int .i64 st.kind), (.own 1), (.own 2)] 107)), (1, (.grow (st.repos.map Bd) 41 4)), (2, (.grow (((Ck pl st r i).map atX) ++ ([(.agg [(.int .i64 (((st.repos.map Bd).length : Int))), (.int .i64 ((i : Int)))])] : List AV)) 128 2))], 4⟩ : St)) (by kernel_rfl) (by rw [show (((Ck pl st r i).map atX) ++ ([(.agg [(.int .i64 (((st.repos.map Bd).length : Int))), (.int .i64 ((i : Int)))])] : List AV)) = (Ck pl st r (i + 1)).map atX from by rw [X2u, List.map_append, List.length_map]; rfl] <;> kernel_rfl))⟩
        ·rintro y2 rfl
         refine Ar ?_
         refine Aw 0 [] [0, 3, 10] [] hk0 v0 (cc 1 (p := (-9223372036854775808 ≤ (i : Int) + 1 ∧ (i : Int) + 1 ≤ 9223372036854775807)) (by first | omega | (simp; omega) | (simp; done) | (intros; simp_all; omega) | (intros; simp_all; done)) <| c0) ?_
         refine ⟨by kernel_rfl, _, ?_, i + 1, ?_, (by kernel_rfl), rfl⟩
         ·omega
         ·omega
       ·refine Bj ?_
        refine Da (fun y => y = ⟨[], [(0, (.row [(.int .i64 st.kind), (.own 1), (.own 2)] 107)), (1, (.grow ((st.repos ++ [r]).map Bd) 41 4)), (2, (.grow ((Ck pl st r i).map atX) 128 2))], 4⟩) [] 4 (by omega) ?_ ?_
        ·refine Gh [] [] [] hk0 v0 (cc 7 (p := (((st.repos.map Bd).length + 1) * 56 ≤ 140737488355328)) (by first | omega | (simp; omega) | (simp; done) | (intros; simp_all; omega) | (intros; simp_all; done)) <| c0) ?_
         refine ⟨by kernel_rfl, (Eq.trans (b := (⟨[], [(0, (.row [(.int .i64 st.kind), (.own 1), (.own 2)] 107)), (1, (.grow ((st.repos.map Bd) ++ ([(.agg [(.str r.name), (.int .i64 r.prio), (.bool r.inst), (Ai 12 Aq r.pkgs)])] : List AV)) 41 4)), (2, (.grow ((Ck pl st r i).map atX) 128 2))], 4⟩ : St)) (by kernel_rfl) (by rw [show ((st.repos.map Bd) ++ ([(.agg [(.str r.name), (.int .i64 r.prio), (.bool r.inst), (Ai 12 Aq r.pkgs)])] : List AV)) = (st.repos ++ [r]).map Bd from by rw [List.map_append]; rfl] <;> kernel_rfl))⟩
        ·rintro y3 rfl
         refine Aa [] [4] ?_
         refine Af ?_
         refine E4 (.inl rfl) (al := [(.int .i64 0)]) (by kernel_rfl) ?_ ((by kernel_rfl : Dk 3 _ = some [(0, (.row [(.int .i64 st.kind), (.own 1), (.own 2)] 107)), (1, (.grow ((st.repos ++ [r]).map Bd) 41 4)), (2, (.grow ((Ck pl st r i).map atX) 128 2))]).trans ?_)
         all_goals have hN := J3 (l := st.repos) (p := fun o => decide (o.name = r.name)) (fun j hj => by simpa using f1_2 j (by omega))
         all_goals have hA : ¬ (Bh r.name = false ∨ st.repos.any (fun o => decide (o.name = r.name)) = true) := fun h => h.elim (fun h => by rw [c1] at h; cases h) (fun h => by rw [hN] at h; cases h)
         all_goals have hI : ¬ (r.inst = true ∧ st.repos.any (fun o => o.inst) = true) := fun ⟨h1, h2⟩ => by rw [J3 (fun j hj => by have := f2_2 j (by omega); simpa [h1] using this)] at h2; cases h2
         all_goals have hE : B8 st r = 0 := by unfold B8; rw [if_neg hA, if_neg hI, if_neg (by omega)]; exact Yx fun j hj => f3_2 j (by omega)
         ·rw [hE]; rfl
         ·unfold B4 En; rw [if_pos hE, if_pos hE, show i = r.pkgs.length from by omega]
end Sv
end Go.Proofs.YtlfjokcbkopfeaaGreatDoor
end
section
namespace Go.Proofs.YtlfjokcbkopfeaaGreatDoor
open Go Go.RowKit
namespace Sv
attribute [local irreducible] SW SO Bg
theorem Za : Am Tryz.prog 9 := Av Tryz.func9 (by kernel_rfl) rfl
theorem X0c : Am Tryz.prog 39 := Av Tryz.func39 (by kernel_rfl) rfl
theorem X0b : Am Tryz.prog 40 := Av Tryz.func40 (by kernel_rfl) rfl
def An (k : Int) : Int := if k = 2 then 2 else 1
theorem Xz (k : Int) : An k = 1 ∨ An k = 2 := by unfold An; split <;> simp
theorem Q79 {k : Int} (h : k = 2) : An k = k := by unfold An; rw [if_pos h, h]
def Hd : List PkgT → Nat
 | [] => 0
 | p :: r => 1 + p.size + Hd r
theorem V1 : ∀ l : List PkgT, l.length ≤ Hd l
 | [] => Nat.zero_le _
 | p :: r => by have := V1 r; simp only [Hd, List.length_cons]; omega
theorem V2 : ∀ {l : List PkgT} {i : Nat}, i < l.length → (nth l i).size ≤ Hd l
 | [], _, h => by simp at h
 | p :: r, 0, _ => by simp only [Hd]; show p.size ≤ _; omega
 | p :: r, i + 1, h => by
  have := V2 (l := r) (i := i) (by simpa using h)
  simp only [Hd]; show (nth r i).size ≤ _; omega
def _root_.Go.Proofs.YtlfjokcbkopfeaaGreatDoor.RepoT.size (r : RepoT) : Nat := 1 + r.name.length + Hd r.pkgs
theorem _root_.Go.Proofs.YtlfjokcbkopfeaaGreatDoor.RepoT.sizes (r : RepoT) : r.name.length ≤ r.size ∧ r.pkgs.length ≤ r.size := by
 have := V1 r.pkgs
 unfold RepoT.size; omega
theorem _root_.Go.Proofs.YtlfjokcbkopfeaaGreatDoor.RepoT.size_pkg {r : RepoT} {i : Nat} (h : i < r.pkgs.length) : (nth r.pkgs i).size ≤ r.size := by
 have := V2 h
 unfold RepoT.size; omega
def Ao (k : Int) (l : List RepoT) : PoolT × List (Int × Int) := l.foldl (fun s r => (B4 s.1 r, En s.2 s.1 r)) (⟨k, [], []⟩, [])
def J0 (s : PoolT × List (Int × Int)) : Prop := s.1.repos.length ≤ 8 ∧ s.1.all.length ≤ 200 ∧ s.2.length = s.1.all.length
theorem X2l {s : PoolT × List (Int × Int)} {r : RepoT} (h : J0 s) : J0 (B4 s.1 r, En s.2 s.1 r) := by
 obtain ⟨h1, h2, h3⟩ := h
 by_cases he : B8 s.1 r = 0
 ·have hm : ¬ (8 ≤ s.1.repos.length ∨ 200 < s.1.all.length + r.pkgs.length) := by
   intro q
   unfold B8 at he
   rw [if_pos q] at he
   split at he <;> first | omega | (split at he <;> omega)
  unfold J0 B4 En
  simp only [if_pos he, List.length_append, List.length_singleton, As, Ck, List.length_map, List.length_take, List.length_range]
  omega
 ·unfold J0 B4 En
  rw [if_neg he, if_neg he]; exact ⟨h1, h2, h3⟩
theorem Q03 (k : Int) (l : List RepoT) : J0 (Ao k l) := by
 have key : ∀ (l : List RepoT) (s : PoolT × List (Int × Int)), J0 s → J0 (l.foldl (fun s r => (B4 s.1 r, En s.2 s.1 r)) s) := by
  intro l
  induction l with
  | nil => exact fun s h => h
  | cons r l ih => exact fun s h => ih _ (X2l h)
 exact key l _ ⟨by simp, by simp, by simp⟩
theorem X2i {k : Int} {l : List RepoT} {i : Nat} (h : i < l.length) : Ao k (l.take (i + 1)) = (B4 (Ao k (l.take i)).1 (nth l i), En (Ao k (l.take i)).2 (Ao k (l.take i)).1 (nth l i)) := by
 unfold Ao
 rw [List.take_add_one, List.getElem?_eq_getElem h, List.foldl_append]
 simp [nth, h]
noncomputable def Bx (st : PoolT) : AV := .agg [.int .i64 st.kind, Ai 4 A8 st.repos, Ai 13 Bb st.all, .smap (.slice none 0 0) (fun s => .row 1 (A7 st.all s).length (fun i => (A7 st.all s).getD i Bl))]
noncomputable def Dh (st : PoolT) (pl : List (Int × Int)) : AV := .agg [.int .i64 st.kind, Ai 4 Bd st.repos, Ai 2 atX pl]
set_option maxHeartbeats 1000000 in
set_option maxRecDepth 100000 in
theorem Q2p (kind : Int) (l : List RepoT) (hll : l.length ≤ 4611686018427387904) (hl : ∀ i, i < l.length → (nth l i).size ≤ 4194304) :
  FnV Tryz.prog 9 [(.int .i64 kind), (Ai 4 Bd l)] (.tup [.fp (Bx (Ao (An kind) l).1), .fp (Dh (Ao (An kind) l).1 (Ao (An kind) l).2)]) := by
 refine A1 [.tmp 4, .tmp 5] Tryz.func9 rfl Tryz.ntmps9 rfl rfl (fun B F hF => ?_)
 refine Aa [] [0, 1] ?_
 refine Da (fun y => y = ⟨[(0, (.int .i64 ((An kind)))), (1, (Ai 4 Bd l))], [], 0⟩) [0, 1] 0 (by omega) ?_ ?_
 ·refine Aa [] [0, 1, 12] ?_
  refine Cm (p := kind = 2) (by kernel_rfl) (fun c1 => ?_) (fun c1 => ?_)
  ·refine Ar ?_
   refine Ep [] [0, 1] ?_
   refine ⟨by kernel_rfl, (Eq.trans (b := (⟨[(0, (.int .i64 1)), (1, (Ai 4 Bd l))], [], 0⟩ : St)) (by kernel_rfl) (by rw [show An kind = 1 from if_neg (by assumption)] <;> rfl))⟩
  ·refine Ag ?_
   refine ⟨by kernel_rfl, (Eq.trans (b := (⟨[(0, (.int .i64 kind)), (1, (Ai 4 Bd l))], [], 0⟩ : St)) (by kernel_rfl) (by rw [show An kind = kind from Q79 (by omega)] <;> rfl))⟩
 ·rintro y1 rfl
  refine Ab ?_
  refine Ar ?_
  refine Bv 1 0 [] [0, 1, 14] [] hk0 v0 c0 ?_
  refine M8 [.tmp 2, .tmp 3] (al := [(.int .i64 ((An kind)))]) (s0 := [(0, (.int .i64 ((An kind)))), (1, (Ai 4 Bd l)), (14, (.int .i64 ((An kind))))]) (by kernel_rfl) (by exact X0c) (by kernel_rfl) Tryz.func39 rfl Tryz.ntmps39 rfl (by kernel_rfl) (by kernel_rfl) (fun F1 hF1 hle1 => ?_)
  refine Aa [] [0] ?_
  refine Ab ?_
  obtain ⟨b1_1, hb1_1⟩ : ∃ b, b = (!decide ((An kind) = 1)) := ⟨_, rfl⟩
  refine Ad (CS := [(4, (b1_1 = true → b1_1 = true)), (5, (b1_1 = true → b1_1 = true))]) [7, 8] [0, 9] [] hk0 (vk 3 6 (a := .bool (!decide ((An kind) = 1))) (b := .bool b1_1) (Imp.of_eq (by rw [hb1_1])) <| v0) (by refine cc _ ?_ <| cc _ ?_ c0 <;> first | omega | (simp; omega) | (simp; done) | (intros; simp_all; omega) | (intros; simp_all; done)) ?_
  refine A3 (q := b1_1 && (!decide ((An kind) = 2))) (by kernel_rfl) (fun c2 => ?_) (fun c2 => ?_)
  ·subst hb1_1
   try simp only [Bool.and_eq_true, Bool.or_eq_true, Bool.and_eq_false_iff, Bool.or_eq_false_iff, Bool.not_eq_true', Bool.not_eq_false', decide_eq_true_eq, decide_eq_false_iff_not] at c2
   exfalso; rcases Xz kind with hk | hk <;> simp_all
  ·subst hb1_1
   try simp only [Bool.and_eq_true, Bool.or_eq_true, Bool.and_eq_false_iff, Bool.or_eq_false_iff, Bool.not_eq_true', Bool.not_eq_false', decide_eq_true_eq, decide_eq_false_iff_not] at c2
   refine Ag ?_
   refine Aa [] [2, 3] ?_
   refine Af ?_
   refine Jq (.inl rfl) (al := [(.ptr 1 0), (.int .i64 0)]) (s' := [(0, (.int .i64 ((An kind)))), (1, (Ai 4 Bd l)), (14, (.int .i64 ((An kind)))), (15, (.tup [(.ptr 1 0), (.int .i64 0)]))]) (by kernel_rfl) (by kernel_rfl) ?_
   refine Aw 2 [] [0, 1, 6, 7] [] hk0 v0 c0 ?_
   refine Ab ?_
   refine Ar ?_
   refine Bv 1 0 [] [1, 6, 7, 19] [] hk0 v0 c0 ?_
   refine M8 [.tmp 2, .tmp 3] (al := [(.int .i64 ((An kind)))]) (s0 := [(1, (Ai 4 Bd l)), (6, (.ptr 1 0)), (7, (.int .i64 0)), (19, (.int .i64 ((An kind))))]) (by kernel_rfl) (by exact X0b) (by kernel_rfl) Tryz.func40 rfl Tryz.ntmps40 rfl (by kernel_rfl) (by kernel_rfl) (fun F2 hF2 hle2 => ?_)
   refine Aa [] [0] ?_
   refine Ab ?_
   obtain ⟨b2_1, hb2_1⟩ : ∃ b, b = (!decide ((An kind) = 1)) := ⟨_, rfl⟩
   refine Ad (CS := [(4, (b2_1 = true → b2_1 = true)), (5, (b2_1 = true → b2_1 = true))]) [7, 8] [0, 9] [] hk0 (vk 3 6 (a := .bool (!decide ((An kind) = 1))) (b := .bool b2_1) (Imp.of_eq (by rw [hb2_1])) <| v0) (by refine cc _ ?_ <| cc _ ?_ c0 <;> first | omega | (simp; omega) | (simp; done) | (intros; simp_all; omega) | (intros; simp_all; done)) ?_
   refine A3 (q := b2_1 && (!decide ((An kind) = 2))) (by kernel_rfl) (fun c3 => ?_) (fun c3 => ?_)
   ·subst hb2_1
    try simp only [Bool.and_eq_true, Bool.or_eq_true, Bool.and_eq_false_iff, Bool.or_eq_false_iff, Bool.not_eq_true', Bool.not_eq_false', decide_eq_true_eq, decide_eq_false_iff_not] at c3
    exfalso; rcases Xz kind with hk | hk <;> simp_all
   ·subst hb2_1
    try simp only [Bool.and_eq_true, Bool.or_eq_true, Bool.and_eq_false_iff, Bool.or_eq_false_iff, Bool.not_eq_true', Bool.not_eq_false', decide_eq_true_eq, decide_eq_false_iff_not] at c3
    refine Ag ?_
    refine Aa [] [2, 3] ?_
    refine Af ?_
    refine Jq (.inl rfl) (al := [(.ptr 2 0), (.int .i64 0)]) (s' := [(1, (Ai 4 Bd l)), (6, (.ptr 1 0)), (7, (.int .i64 0)), (19, (.int .i64 ((An kind)))), (20, (.tup [(.ptr 2 0), (.int .i64 0)]))]) (by kernel_rfl) (by kernel_rfl) ?_
    refine Aw 2 [] [1, 6, 7, 8] [] hk0 v0 c0 ?_
    refine Ab ?_
    refine Aa [] [1, 6, 8, 28] ?_
    refine D6 (by kernel_rfl) ?_
    refine Ag ?_
    refine Ab ?_
    refine Aa [] [1, 6, 8, 10] ?_
    refine A0 ?_
    refine Pv 41 4 1 1 (y := ⟨[(1, (Ai 4 Bd l)), (6, (.ptr 1 0)), (8, (.ptr 2 0)), (10, (.int .i64 0))], [(0, (.map [] 0)), (1, (.row [(.int .i64 ((An kind))), (.own 3), .nils, (.map 0)] 92)), (2, (.row [(.int .i64 ((An kind))), .nils, .nils] 107)), (3, (.grow [] 41 4))], 4⟩) (by kernel_rfl) (by kernel_rfl) ?_
    refine Pv 97 13 1 2 (y := ⟨[(1, (Ai 4 Bd l)), (6, (.ptr 1 0)), (8, (.ptr 2 0)), (10, (.int .i64 0))], [(0, (.map [] 0)), (1, (.row [(.int .i64 ((An kind))), (.own 3), (.own 4), (.map 0)] 92)), (2, (.row [(.int .i64 ((An kind))), .nils, .nils] 107)), (3, (.grow [] 41 4)), (4, (.grow [] 97 13))], 5⟩) (by kernel_rfl) (by kernel_rfl) ?_
    refine Pv 41 4 2 1 (y := ⟨[(1, (Ai 4 Bd l)), (6, (.ptr 1 0)), (8, (.ptr 2 0)), (10, (.int .i64 0))], [(0, (.map [] 0)), (1, (.row [(.int .i64 ((An kind))), (.own 3), (.own 4), (.map 0)] 92)), (2, (.row [(.int .i64 ((An kind))), (.own 5), .nils] 107)), (3, (.grow [] 41 4)), (4, (.grow [] 97 13)), (5, (.grow [] 41 4))], 6⟩) (by kernel_rfl) (by kernel_rfl) ?_
    refine Pv 128 2 2 2 (y := ⟨[(1, (Ai 4 Bd l)), (6, (.ptr 1 0)), (8, (.ptr 2 0)), (10, (.int .i64 0))], [(0, (.map [] 0)), (1, (.row [(.int .i64 ((An kind))), (.own 3), (.own 4), (.map 0)] 92)), (2, (.row [(.int .i64 ((An kind))), (.own 5), (.own 6)] 107)), (3, (.grow [] 41 4)), (4, (.grow [] 97 13)), (5, (.grow [] 41 4)), (6, (.grow [] 128 2))], 7⟩) (by kernel_rfl) (by kernel_rfl) ?_
    refine Q19 0 3 1 (y := ⟨[(1, (Ai 4 Bd l)), (6, (.ptr 1 0)), (8, (.ptr 2 0)), (10, (.int .i64 0))], [(0, (.mm (fun _ => []) none 3 1)), (1, (.row [(.int .i64 ((An kind))), (.own 3), (.own 4), (.map 0)] 92)), (2, (.row [(.int .i64 ((An kind))), (.own 5), (.own 6)] 107)), (3, (.grow [] 41 4)), (4, (.grow [] 97 13)), (5, (.grow [] 41 4)), (6, (.grow [] 128 2))], 7⟩) (by kernel_rfl) ?_
    refine Bq (fun g y => ∃ (i : Nat), i ≤ l.length ∧ y = ⟨[(1, (Ai 4 Bd l)), (6, (.ptr 1 0)), (8, (.ptr 2 0)), (10, (.int .i64 ((i : Int))))], [(0, (.mm (A7 ((Ao (An kind) (l.take i)).1).all) none 3 1)), (1, (.row [(.int .i64 ((Ao (An kind) (l.take i)).1.kind)), (.own 3), (.own 4), (.map 0)] 92)), (2, (.row [(.int .i64 ((Ao (An kind) (l.take i)).1.kind)), (.own 5), (.own 6)] 107)), (3, (.grow (((Ao (An kind) (l.take i)).1).repos.map A8) 41 4)), (4, (.grow (((Ao (An kind) (l.take i)).1).all.map Bb) 97 13)), (5, (.grow (((Ao (An kind) (l.take i)).1).repos.map Bd) 41 4)), (6, (.grow (((Ao (An kind) (l.take i)).2).map atX) 128 2))], 7⟩ ∧ g = l.length - i) [1, 6, 8, 10] 7 _ (by omega) ⟨0, (by omega), (by kernel_rfl), rfl⟩ ?_
    rintro g1 y1 ⟨i, f1_1, rfl, rfl⟩
    have hb := Q03 (An kind) (l.take i)
    refine Ab ?_
    refine Aa [] [1, 6, 8, 10, 32] ?_
    refine A2 (p := (i : Int) < (l.length : Int)) (by kernel_rfl) (fun c4 => ?_) (fun c4 => ?_)
    ·have hz := RepoT.sizes (nth l i)
     have hw := hl i (by omega)
     refine Ag ?_
     refine Ab ?_
     refine A0 ?_
     refine Ab ?_
     refine I3 (by kernel_rfl) (fun F1 hF1 => ?_)
     refine Cs (fuel := 3) [] [0, 1, 2, 3, 4, 6, 7, 8, 9, 10] [1, 6, 8, 10, 35, 39, 41, 45] (hold (p := (0 ≤ (i : Int) ∧ i < l.length) ∧ (0 ≤ (i : Int) ∧ i < l.length)) (by first | omega | (simp; omega) | (simp; done) | (intros; simp_all; omega) | (intros; simp_all; done))) ?_
     refine F4 (fuel := 2) 5 (by kernel_rfl) ?_
     refine C4 (fuel := 2) 5 rfl ?_
     refine Lo [1, 3, 4, 0] (al := [(.ptr 1 0), (.agg [(.str ((nth l i).name)), (.int .i64 ((nth l i).prio)), (.bool ((nth l i).inst)), (Ai 12 Aq ((nth l i).pkgs))])]) (al' := [(.ptr 0 0), (.agg [(.str ((nth l i).name)), (.int .i64 ((nth l i).prio)), (.bool ((nth l i).inst)), (Ai 12 Aq ((nth l i).pkgs))])]) (r := (.int .i64 (B8 (Ao (An kind) (l.take i)).1 (nth l i)))) (r' := (.int .i64 (B8 (Ao (An kind) (l.take i)).1 (nth l i)))) (s' := [(1, (Ai 4 Bd l)), (6, (.ptr 1 0)), (8, (.ptr 2 0)), (10, (.int .i64 ((i : Int)))), (35, (.ptr 1 0)), (39, (.agg [(.str ((nth l i).name)), (.int .i64 ((nth l i).prio)), (.bool ((nth l i).inst)), (Ai 12 Aq ((nth l i).pkgs))])), (41, (.ptr 2 0)), (45, (.agg [(.str ((nth l i).name)), (.int .i64 ((nth l i).prio)), (.bool ((nth l i).inst)), (Ai 12 Aq ((nth l i).pkgs))])), (40, (.int .i64 (B8 (Ao (An kind) (l.take i)).1 (nth l i))))]) (H := [(0, (.row [(.int .i64 ((Ao (An kind) (l.take i)).1.kind)), (.own 1), (.own 2), (.map 3)] 92)), (1, (.grow (((Ao (An kind) (l.take i)).1).repos.map A8) 41 4)), (2, (.grow (((Ao (An kind) (l.take i)).1).all.map Bb) 97 13)), (3, (.mm (A7 ((Ao (An kind) (l.take i)).1).all) none 3 1))]) (H' := [(0, (.row [(.int .i64 ((B4 (Ao (An kind) (l.take i)).1 (nth l i)).kind)), (.own 1), (.own 2), (.map 3)] 92)), (1, (.grow ((B4 (Ao (An kind) (l.take i)).1 (nth l i)).repos.map A8) 41 4)), (2, (.grow ((B4 (Ao (An kind) (l.take i)).1 (nth l i)).all.map Bb) 97 13)), (3, (.mm (A7 (B4 (Ao (An kind) (l.take i)).1 (nth l i)).all) none 3 1))]) (h2 := [(0, (.mm (A7 (B4 (Ao (An kind) (l.take i)).1 (nth l i)).all) none 3 1)), (1, (.row [(.int .i64 ((B4 (Ao (An kind) (l.take i)).1 (nth l i)).kind)), (.own 3), (.own 4), (.map 0)] 92)), (2, (.row [(.int .i64 ((Ao (An kind) (l.take i)).1.kind)), (.own 5), (.own 6)] 107)), (3, (.grow ((B4 (Ao (An kind) (l.take i)).1 (nth l i)).repos.map A8) 41 4)), (4, (.grow ((B4 (Ao (An kind) (l.take i)).1 (nth l i)).all.map Bb) 97 13)), (5, (.grow (((Ao (An kind) (l.take i)).1).repos.map Bd) 41 4)), (6, (.grow (((Ao (An kind) (l.take i)).2).map atX) 128 2))]) (by kernel_rfl) (by exact X1h) (by kernel_rfl) (by kernel_rfl) (by kernel_rfl) (by kernel_rfl) (by kernel_rfl) (X44 (Ao (An kind) (l.take i)).1 (nth l i) hb.1 hb.2.1 (by omega) (by omega) (fun j hj => Nat.le_trans (RepoT.size_pkg hj) (hl i (by omega)))) (by kernel_rfl) (by kernel_rfl) (by kernel_rfl) ?_
     refine B2 ⟨rfl, ?_⟩
     refine F4 (fuel := 1) 11 (by kernel_rfl) ?_
     refine C4 (fuel := 1) 11 rfl ?_
     refine Lo [2, 5, 6] (al := [(.ptr 2 0), (.agg [(.str ((nth l i).name)), (.int .i64 ((nth l i).prio)), (.bool ((nth l i).inst)), (Ai 12 Aq ((nth l i).pkgs))])]) (al' := [(.ptr 0 0), (.agg [(.str ((nth l i).name)), (.int .i64 ((nth l i).prio)), (.bool ((nth l i).inst)), (Ai 12 Aq ((nth l i).pkgs))])]) (r := (.int .i64 (B8 (Ao (An kind) (l.take i)).1 (nth l i)))) (r' := (.int .i64 (B8 (Ao (An kind) (l.take i)).1 (nth l i)))) (s' := [(1, (Ai 4 Bd l)), (6, (.ptr 1 0)), (8, (.ptr 2 0)), (10, (.int .i64 ((i : Int)))), (35, (.ptr 1 0)), (39, (.agg [(.str ((nth l i).name)), (.int .i64 ((nth l i).prio)), (.bool ((nth l i).inst)), (Ai 12 Aq ((nth l i).pkgs))])), (41, (.ptr 2 0)), (45, (.agg [(.str ((nth l i).name)), (.int .i64 ((nth l i).prio)), (.bool ((nth l i).inst)), (Ai 12 Aq ((nth l i).pkgs))])), (40, (.int .i64 (B8 (Ao (An kind) (l.take i)).1 (nth l i)))), (46, (.int .i64 (B8 (Ao (An kind) (l.take i)).1 (nth l i))))]) (H := [(0, (.row [(.int .i64 ((Ao (An kind) (l.take i)).1.kind)), (.own 1), (.own 2)] 107)), (1, (.grow (((Ao (An kind) (l.take i)).1).repos.map Bd) 41 4)), (2, (.grow (((Ao (An kind) (l.take i)).2).map atX) 128 2))]) (H' := [(0, (.row [(.int .i64 ((B4 (Ao (An kind) (l.take i)).1 (nth l i)).kind)), (.own 1), (.own 2)] 107)), (1, (.grow ((B4 (Ao (An kind) (l.take i)).1 (nth l i)).repos.map Bd) 41 4)), (2, (.grow ((En (Ao (An kind) (l.take i)).2 (Ao (An kind) (l.take i)).1 (nth l i)).map atX) 128 2))]) (h2 := [(0, (.mm (A7 (B4 (Ao (An kind) (l.take i)).1 (nth l i)).all) none 3 1)), (1, (.row [(.int .i64 ((B4 (Ao (An kind) (l.take i)).1 (nth l i)).kind)), (.own 3), (.own 4), (.map 0)] 92)), (2, (.row [(.int .i64 ((B4 (Ao (An kind) (l.take i)).1 (nth l i)).kind)), (.own 5), (.own 6)] 107)), (3, (.grow ((B4 (Ao (An kind) (l.take i)).1 (nth l i)).repos.map A8) 41 4)), (4, (.grow ((B4 (Ao (An kind) (l.take i)).1 (nth l i)).all.map Bb) 97 13)), (5, (.grow ((B4 (Ao (An kind) (l.take i)).1 (nth l i)).repos.map Bd) 41 4)), (6, (.grow ((En (Ao (An kind) (l.take i)).2 (Ao (An kind) (l.take i)).1 (nth l i)).map atX) 128 2))]) (by kernel_rfl) (by exact X0a) (by kernel_rfl) (by kernel_rfl) (by kernel_rfl) (by kernel_rfl) (by kernel_rfl) (Q5i (Ao (An kind) (l.take i)).1 (Ao (An kind) (l.take i)).2 (nth l i) hb.1 hb.2.1 hb.2.2 (by omega) (by omega) (fun j hj => Nat.le_trans (RepoT.size_pkg hj) (hl i (by omega)))) (by kernel_rfl) (by kernel_rfl) (by kernel_rfl) ?_
     refine B2 ⟨rfl, ?_⟩
     refine Cs (fuel := 0) [] [12] [1, 6, 8, 10, 47] Az ?_
     refine Ax [1, 6, 8, 10, 47] ?_
     refine Gj (by kernel_rfl) ?_
     refine Cm (p := (B8 (Ao (An kind) (l.take i)).1 (nth l i)) = (B8 (Ao (An kind) (l.take i)).1 (nth l i))) (by kernel_rfl) (fun c5 => ?_) (fun c5 => ?_)
     ·exact absurd rfl c5
     ·refine Ag ?_
      refine Ar ?_
      refine Aw 0 [] [1, 6, 8, 10] [] hk0 v0 (cc 1 (p := (-9223372036854775808 ≤ (i : Int) + 1 ∧ (i : Int) + 1 ≤ 9223372036854775807)) (by first | omega | (simp; omega) | (simp; done) | (intros; simp_all; omega) | (intros; simp_all; done)) <| c0) ?_
      refine ⟨by kernel_rfl, _, ?_, i + 1, ?_, (Eq.trans (b := (⟨[(1, (Ai 4 Bd l)), (6, (.ptr 1 0)), (8, (.ptr 2 0)), (10, (.int .i64 ((i : Int) + 1)))], [(0, (.mm (A7 (B4 (Ao (An kind) (l.take i)).1 (nth l i)).all) none 3 1)), (1, (.row [(.int .i64 ((B4 (Ao (An kind) (l.take i)).1 (nth l i)).kind)), (.own 3), (.own 4), (.map 0)] 92)), (2, (.row [(.int .i64 ((B4 (Ao (An kind) (l.take i)).1 (nth l i)).kind)), (.own 5), (.own 6)] 107)), (3, (.grow ((B4 (Ao (An kind) (l.take i)).1 (nth l i)).repos.map A8) 41 4)), (4, (.grow ((B4 (Ao (An kind) (l.take i)).1 (nth l i)).all.map Bb) 97 13)), (5, (.grow ((B4 (Ao (An kind) (l.take i)).1 (nth l i)).repos.map Bd) 41 4)), (6, (.grow ((En (Ao (An kind) (l.take i)).2 (Ao (An kind) (l.take i)).1 (nth l i)).map atX) 128 2))], 7⟩ : St)) (by kernel_rfl) (by rw [X2i (by omega)] <;> kernel_rfl)), rfl⟩
      ·omega
      ·omega
    ·refine Bj ?_
     refine Ab ?_
     refine Ar ?_
     refine Ln 1 1 (y := ⟨[(1, (Ai 4 Bd l)), (6, (.ptr 1 0)), (8, (.ptr 2 0)), (10, (.int .i64 ((i : Int)))), (32, (.bool (decide ((i : Int) < (l.length : Int)))))], [(0, (.mm (A7 ((Ao (An kind) (l.take i)).1).all) none 3 1)), (1, (.row [(.int .i64 ((Ao (An kind) (l.take i)).1.kind)), (.row 4 (((Ao (An kind) (l.take i)).1).repos.map A8).length (fun ix => (((Ao (An kind) (l.take i)).1).repos.map A8).getD ix Bl)), (.own 4), (.map 0)] 92)), (2, (.row [(.int .i64 ((Ao (An kind) (l.take i)).1.kind)), (.own 5), (.own 6)] 107)), (4, (.grow (((Ao (An kind) (l.take i)).1).all.map Bb) 97 13)), (5, (.grow (((Ao (An kind) (l.take i)).1).repos.map Bd) 41 4)), (6, (.grow (((Ao (An kind) (l.take i)).2).map atX) 128 2))], 7⟩) (by kernel_rfl) ?_
     refine Ln 1 2 (y := ⟨[(1, (Ai 4 Bd l)), (6, (.ptr 1 0)), (8, (.ptr 2 0)), (10, (.int .i64 ((i : Int)))), (32, (.bool (decide ((i : Int) < (l.length : Int)))))], [(0, (.mm (A7 ((Ao (An kind) (l.take i)).1).all) none 3 1)), (1, (.row [(.int .i64 ((Ao (An kind) (l.take i)).1.kind)), (.row 4 (((Ao (An kind) (l.take i)).1).repos.map A8).length (fun ix => (((Ao (An kind) (l.take i)).1).repos.map A8).getD ix Bl)), (.row 13 (((Ao (An kind) (l.take i)).1).all.map Bb).length (fun ix => (((Ao (An kind) (l.take i)).1).all.map Bb).getD ix Bl)), (.map 0)] 92)), (2, (.row [(.int .i64 ((Ao (An kind) (l.take i)).1.kind)), (.own 5), (.own 6)] 107)), (5, (.grow (((Ao (An kind) (l.take i)).1).repos.map Bd) 41 4)), (6, (.grow (((Ao (An kind) (l.take i)).2).map atX) 128 2))], 7⟩) (by kernel_rfl) ?_
     refine Ln 1 3 (y := ⟨[(1, (Ai 4 Bd l)), (6, (.ptr 1 0)), (8, (.ptr 2 0)), (10, (.int .i64 ((i : Int)))), (32, (.bool (decide ((i : Int) < (l.length : Int)))))], [(1, (.row [(.int .i64 ((Ao (An kind) (l.take i)).1.kind)), (.row 4 (((Ao (An kind) (l.take i)).1).repos.map A8).length (fun ix => (((Ao (An kind) (l.take i)).1).repos.map A8).getD ix Bl)), (.row 13 (((Ao (An kind) (l.take i)).1).all.map Bb).length (fun ix => (((Ao (An kind) (l.take i)).1).all.map Bb).getD ix Bl)), (.smap (.slice none 0 0) (fun kq => .row 1 ((A7 ((Ao (An kind) (l.take i)).1).all) kq).length (fun ix => ((A7 ((Ao (An kind) (l.take i)).1).all) kq).getD ix Bl)))] 92)), (2, (.row [(.int .i64 ((Ao (An kind) (l.take i)).1.kind)), (.own 5), (.own 6)] 107)), (5, (.grow (((Ao (An kind) (l.take i)).1).repos.map Bd) 41 4)), (6, (.grow (((Ao (An kind) (l.take i)).2).map atX) 128 2))], 7⟩) (by kernel_rfl) ?_
     refine Ln 2 1 (y := ⟨[(1, (Ai 4 Bd l)), (6, (.ptr 1 0)), (8, (.ptr 2 0)), (10, (.int .i64 ((i : Int)))), (32, (.bool (decide ((i : Int) < (l.length : Int)))))], [(1, (.row [(.int .i64 ((Ao (An kind) (l.take i)).1.kind)), (.row 4 (((Ao (An kind) (l.take i)).1).repos.map A8).length (fun ix => (((Ao (An kind) (l.take i)).1).repos.map A8).getD ix Bl)), (.row 13 (((Ao (An kind) (l.take i)).1).all.map Bb).length (fun ix => (((Ao (An kind) (l.take i)).1).all.map Bb).getD ix Bl)), (.smap (.slice none 0 0) (fun kq => .row 1 ((A7 ((Ao (An kind) (l.take i)).1).all) kq).length (fun ix => ((A7 ((Ao (An kind) (l.take i)).1).all) kq).getD ix Bl)))] 92)), (2, (.row [(.int .i64 ((Ao (An kind) (l.take i)).1.kind)), (.row 4 (((Ao (An kind) (l.take i)).1).repos.map Bd).length (fun ix => (((Ao (An kind) (l.take i)).1).repos.map Bd).getD ix Bl)), (.own 6)] 107)), (6, (.grow (((Ao (An kind) (l.take i)).2).map atX) 128 2))], 7⟩) (by kernel_rfl) ?_
     refine Ln 2 2 (y := ⟨[(1, (Ai 4 Bd l)), (6, (.ptr 1 0)), (8, (.ptr 2 0)), (10, (.int .i64 ((i : Int)))), (32, (.bool (decide ((i : Int) < (l.length : Int)))))], [(1, (.row [(.int .i64 ((Ao (An kind) (l.take i)).1.kind)), (.row 4 (((Ao (An kind) (l.take i)).1).repos.map A8).length (fun ix => (((Ao (An kind) (l.take i)).1).repos.map A8).getD ix Bl)), (.row 13 (((Ao (An kind) (l.take i)).1).all.map Bb).length (fun ix => (((Ao (An kind) (l.take i)).1).all.map Bb).getD ix Bl)), (.smap (.slice none 0 0) (fun kq => .row 1 ((A7 ((Ao (An kind) (l.take i)).1).all) kq).length (fun ix => ((A7 ((Ao (An kind) (l.take i)).1).all) kq).getD ix Bl)))] 92)), (2, (.row [(.int .i64 ((Ao (An kind) (l.take i)).1.kind)), (.row 4 (((Ao (An kind) (l.take i)).1).repos.map Bd).length (fun ix => (((Ao (An kind) (l.take i)).1).repos.map Bd).getD ix Bl)), (.row 2 (((Ao (An kind) (l.take i)).2).map atX).length (fun ix => (((Ao (An kind) (l.take i)).2).map atX).getD ix Bl))] 107))], 7⟩) (by kernel_rfl) ?_
     refine Ep [] [4, 5] ?_
     refine Af ?_
     refine RK wR [(.fp (.agg [(.int .i64 ((Ao (An kind) (l.take i)).1.kind)), (.row 4 (((Ao (An kind) (l.take i)).1).repos.map A8).length (fun ix => (((Ao (An kind) (l.take i)).1).repos.map A8).getD ix Bl)), (.row 13 (((Ao (An kind) (l.take i)).1).all.map Bb).length (fun ix => (((Ao (An kind) (l.take i)).1).all.map Bb).getD ix Bl)), (.smap (.slice none 0 0) (fun kq => .row 1 ((A7 ((Ao (An kind) (l.take i)).1).all) kq).length (fun ix => ((A7 ((Ao (An kind) (l.take i)).1).all) kq).getD ix Bl)))])), (.fp (.agg [(.int .i64 ((Ao (An kind) (l.take i)).1.kind)), (.row 4 (((Ao (An kind) (l.take i)).1).repos.map Bd).length (fun ix => (((Ao (An kind) (l.take i)).1).repos.map Bd).getD ix Bl)), (.row 2 (((Ao (An kind) (l.take i)).2).map atX).length (fun ix => (((Ao (An kind) (l.take i)).2).map atX).getD ix Bl))]))] ?_
     rw [show i = l.length from by omega, List.take_length]
     simp only [Ah]
     exact (Imp.tups (ImpL.cons (Imp.fp (Imp.aggs (ImpL.cons Imp.refl (ImpL.cons (Imp.list (f := A8) (List.length_map _)) (ImpL.cons (Imp.list (f := Bb) (List.length_map _)) (ImpL.cons Imp.refl ImpL.nil)))))) (ImpL.cons (Imp.fp (Imp.aggs (ImpL.cons Imp.refl (ImpL.cons (Imp.list (f := Bd) (List.length_map _)) (ImpL.cons (Imp.list (f := atX) (List.length_map _)) ImpL.nil))))) ImpL.nil))).same
end Sv
end Go.Proofs.YtlfjokcbkopfeaaGreatDoor
end
section
namespace Go.Proofs.YtlfjokcbkopfeaaGreatDoor
open Go Go.RowKit
namespace Sv
attribute [local irreducible] SW SO Bg
theorem Zm : Am Tryz.prog 42 := Av Tryz.func42 (by kernel_rfl) rfl
theorem Zl : Am Tryz.prog 43 := Av Tryz.func43 (by kernel_rfl) rfl
theorem Ms : Am Tryz.prog 44 := Av Tryz.func44 (by kernel_rfl) rfl
set_option maxHeartbeats 400000 in
set_option maxRecDepth 100000 in
theorem Q2s (st : PoolT) :
  FnV Tryz.prog 42 [(.fp (Bx st))] (.int .i64 st.kind) := by
 refine A1 [.tmp 2] Tryz.func42 rfl Tryz.ntmps42 rfl rfl (fun B F hF => ?_)
 refine Aa [] [0] ?_
 refine Ab ?_
 refine Aa [] [0, 4] ?_
 refine D6 (by kernel_rfl) ?_
 refine Ag ?_
 refine Aa [] [2] ?_
 refine Af ?_
 refine RK wR [(.int .i64 st.kind)] ?_
 exact Same.of_eq (by first | rfl | (simp only [Ah]; simp_all))
set_option maxHeartbeats 400000 in
set_option maxRecDepth 100000 in
theorem Q2r (st : PoolT) :
  FnV Tryz.prog 43 [(.fp (Bx st))] (.int .i64 ((st.all.length : Int))) := by
 refine A1 [.tmp 2] Tryz.func43 rfl Tryz.ntmps43 rfl rfl (fun B F hF => ?_)
 refine Aa [] [0] ?_
 refine Ab ?_
 refine Aa [] [0, 4] ?_
 refine D6 (by kernel_rfl) ?_
 refine Ag ?_
 refine Aa [] [2] ?_
 refine Af ?_
 refine RK wR [(.int .i64 ((st.all.length : Int)))] ?_
 exact Same.of_eq (by first | rfl | (simp only [Ah]; simp_all))
set_option maxHeartbeats 400000 in
set_option maxRecDepth 100000 in
theorem Na (st : PoolT) (i : Nat) (hi : i < st.all.length) (hs : (nth st.all i).1.size ≤ 4194304) :
  FnV Tryz.prog 44 [(.fp (Bx st)), (.int .i64 ((i : Int)))] (.tup [Aq (nth st.all i).1, .int .i64 (nth st.all i).2, .int .i64 0]) := by
 refine A1 [.cell 4 38, .tmp 5, .tmp 6] Tryz.func44 rfl Tryz.ntmps44 rfl rfl (fun B F hF => ?_)
 refine Aa [] [0, 1, 4] ?_
 refine Ab ?_
 refine A0 ?_
 refine Aa [] [0, 1, 4, 7] ?_
 refine D6 (by kernel_rfl) ?_
 obtain ⟨b1, hb1⟩ : ∃ b, b = (decide ((i : Int) < 0)) := ⟨_, rfl⟩
 obtain ⟨b2, hb2⟩ : ∃ b, b = (b1 || (decide ((st.all.length : Int) ≤ (i : Int)))) := ⟨_, rfl⟩
 refine Ad (CS := [(5, ((!b1) = true → (!b1) = true)), (6, ((!b1) = true → (!b1) = true)), (7, ((!b1) = true → (!b1) = true)), (8, ((!b1) = true → (!b1) = true)), (9, ((!b1) = true → (!b1) = true ∧ (!b1) = true)), (10, (b1 = false → (!b1) = true))]) [15, 16, 17, 18, 19, 20, 21] [0, 1, 4, 11] [] hk0 (vk 3 14 (a := .bool (decide ((i : Int) < 0))) (b := .bool b1) (Imp.of_eq (by rw [hb1])) <| vk 11 22 (a := .bool (b1 || (decide ((st.all.length : Int) ≤ (i : Int))))) (b := .bool b2) (Imp.of_eq (by rw [hb2])) <| v0) (by refine cc _ ?_ <| cc _ ?_ <| cc _ ?_ <| cc _ ?_ <| cc _ ?_ <| cc _ ?_ c0 <;> first | omega | (simp; omega) | (simp; done) | (intros; simp_all; omega) | (intros; simp_all; done)) ?_
 refine A3 (q := b2) (by kernel_rfl) (fun c1 => ?_) (fun c1 => ?_)
 ·subst hb2 hb1
  try simp only [Bool.and_eq_true, Bool.or_eq_true, Bool.and_eq_false_iff, Bool.or_eq_false_iff, Bool.not_eq_true', Bool.not_eq_false', decide_eq_true_eq, decide_eq_false_iff_not] at c1
  exfalso; simp at c1; omega
 ·subst hb2 hb1
  try simp only [Bool.and_eq_true, Bool.or_eq_true, Bool.and_eq_false_iff, Bool.or_eq_false_iff, Bool.not_eq_true', Bool.not_eq_false', decide_eq_true_eq, decide_eq_false_iff_not] at c1
  refine Ag ?_
  refine Cn (CS := [(5, (0 ≤ (i : Int) ∧ i < st.all.length)), (14, (0 ≤ (i : Int) ∧ i < st.all.length))]) [] [4, 5, 6] [] (hk 8 Zj (Q0r (nth st.all i).1 (by have := (nth st.all i).1.sizes; omega) (by have := (nth st.all i).1.sizes; have := Jw (nth st.all i).1.files; omega)) <| hk0) v0 (by refine cc _ ?_ <| cc _ ?_ c0 <;> first | omega | (simp; omega) | (simp; done) | (intros; simp_all; omega) | (intros; simp_all; done)) ?_
  refine Af ?_
  refine RK wR [(Aq ((nth st.all i).1)), (.int .i64 ((nth st.all i).2)), (.int .i64 0)] ?_
  exact Same.of_eq (by first | rfl | (simp only [Ah]; simp_all))
end Sv
end Go.Proofs.YtlfjokcbkopfeaaGreatDoor
end
section
namespace Go.Proofs.YtlfjokcbkopfeaaGreatDoor
open Go Go.RowKit
namespace Sv
attribute [local irreducible] SW SO Bg
theorem X1o : Am Tryz.prog 10 := Av Tryz.func10 (by kernel_rfl) rfl
theorem Sj : Am Tryz.prog 45 := Av Tryz.func45 (by kernel_rfl) rfl
structure OfferT where
 id : Int
 own : Bool
 op : Int
 evr : List UInt8
 deriving Inhabited
noncomputable def H0 (o : OfferT) : AV := .agg [.int .i64 o.id, .bool o.own, .int .i64 o.op, .str o.evr]
def B3 (ps : List (List UInt8 × OfferT)) (s : List UInt8) : List OfferT := (ps.filter fun q => decide (q.1 = s)).map fun q => q.2
noncomputable def A4 (ps : List (List UInt8 × OfferT)) (s : List UInt8) : List AV := (B3 ps s).map H0
theorem Wy (ps : List (List UInt8 × OfferT)) (s : List UInt8) (o : OfferT) : Dm (A4 ps) s (A4 ps s ++ [H0 o]) = A4 (ps ++ [(s, o)]) := by
 funext t
 unfold Dm A4 B3
 rw [List.filter_append, List.map_append, List.map_append]
 by_cases h : t = s
 ·subst h; rw [if_pos rfl]; simp
 ·rw [if_neg h]
  have : ¬ s = t := fun q => h q.symm
  simp [this]
theorem Oi (ps : List (List UInt8 × OfferT)) (s : List UInt8) : (A4 ps s).length ≤ ps.length := by
 unfold A4 B3
 rw [List.length_map, List.length_map]; exact List.length_filter_le _ _
def Ea (i : Nat) (p : PkgT) (j : Nat) : List (List UInt8 × OfferT) := (p.name, ⟨i, true, 2, p.evr⟩) :: (p.provides.take j).map fun d => (d.name, ⟨i, false, d.op, d.evr⟩)
def Dx (i : Nat) (p : PkgT) (j : Nat) : List (List UInt8 × OfferT) := Ea i p p.provides.length ++ (p.files.take j).map fun f => (f, ⟨i, false, 0, []⟩)
def Gp (i : Nat) (p : PkgT) : List (List UInt8 × OfferT) := Dx i p p.files.length
def Bf (l : List (PkgT × Int)) (n : Nat) : List (List UInt8 × OfferT) := (List.range n).flatMap fun i => Gp i (nth l i).1
theorem Q51 {i : Nat} {p : PkgT} {j : Nat} (h : j < p.provides.length) : Ea i p (j + 1) = Ea i p j ++ [((nth p.provides j).name, ⟨i, false, (nth p.provides j).op, (nth p.provides j).evr⟩)] := by
 unfold Ea
 rw [List.take_add_one, List.getElem?_eq_getElem h, List.map_append]
 simp [nth, h]
theorem Q50 {i : Nat} {p : PkgT} {j : Nat} (h : j < p.files.length) : Dx i p (j + 1) = Dx i p j ++ [(nth p.files j, ⟨i, false, 0, []⟩)] := by
 unfold Dx
 rw [List.take_add_one, List.getElem?_eq_getElem h, List.map_append, List.append_assoc]
 simp [nth, h]
theorem Vs {l : List (PkgT × Int)} {n : Nat} : Bf l (n + 1) = Bf l n ++ Gp n (nth l n).1 := by
 unfold Bf
 rw [List.range_succ, List.flatMap_append]; simp
theorem N6 {i : Nat} {p : PkgT} {j : Nat} : (Ea i p j).length ≤ 1 + p.provides.length := by
 unfold Ea; simp only [List.length_cons, List.length_map, List.length_take]; omega
theorem N5 {i : Nat} {p : PkgT} {j : Nat} : (Dx i p j).length ≤ 1 + p.provides.length + p.files.length := by
 have := N6 (i := i) (p := p) (j := p.provides.length)
 unfold Dx; simp only [List.length_append, List.length_map, List.length_take]; omega
theorem Vt {l : List (PkgT × Int)} (hs : ∀ i, i < l.length → (nth l i).1.size ≤ 4194304) : ∀ n, n ≤ l.length → (Bf l n).length ≤ n * 8388609 := by
 intro n
 induction n with
 | zero => intro _; exact Nat.le_refl _
 | succ n ih =>
  intro h
  have h1 := ih (by omega)
  have h2 := N5 (i := n) (p := (nth l n).1) (j := (nth l n).1.files.length)
  have h3 := (nth l n).1.sizes
  have h4 := hs n (by omega)
  have h5 := Ew (nth l n).1.provides
  have h6 := Jw (nth l n).1.files
  have h7 : argsSize (nth l n).1.provides ≤ (nth l n).1.depSize := by unfold PkgT.depSize; omega
  rw [Vs, List.length_append]
  unfold Gp
  omega
noncomputable def Cw (st : PoolT) : AV := .agg [.int .i64 st.kind, .int .i64 (st.all.length : Int), .smap (.slice none 0 0) (fun s => .row 4 (A4 (Bf st.all st.all.length) s).length (fun i => (A4 (Bf st.all st.all.length) s).getD i Bl))]
set_option maxHeartbeats 1000000 in
set_option maxRecDepth 100000 in
theorem Q9 (kind count : Int) (ps : List (List UInt8 × OfferT)) (s : List UInt8) (o : OfferT) (hl : (A4 ps s).length ≤ 2147483648) :
  Gk Tryz.prog 45 [(.str s), (.agg [(.int .i64 o.id), (.bool o.own), (.int .i64 o.op), (.str o.evr)]), (.ptr 0 0)] [(0, (.row [(.ptr 1 0)] 32)), (1, (.row [(.int .i64 kind), (.int .i64 count), (.map 2)] 80)), (2, (.mm (A4 ps) none 84 4))] 3 (.tup []) [(0, (.row [(.ptr 1 0)] 32)), (1, (.row [(.int .i64 kind), (.int .i64 count), (.map 2)] 80)), (2, (.mm (A4 (ps ++ [(s, o)])) none 84 4))] := by
 refine Nc [] Tryz.func45 rfl Tryz.ntmps45 rfl rfl (by kernel_rfl) (by kernel_rfl) (by kernel_rfl) (fun B F hF => ?_)
 refine Aa [] [0, 2, 4] ?_
 refine Tp 4 (y := ⟨[(0, (.str s)), (2, (.ptr 0 0)), (4, (.fp (.agg [(.int .i64 o.id), (.bool o.own), (.int .i64 o.op), (.str o.evr)])))], [(0, (.row [(.ptr 1 0)] 32)), (1, (.row [(.int .i64 kind), (.int .i64 count), (.map 2)] 80)), (2, (.mm (A4 ps) none 84 4))], 4⟩) (by kernel_rfl) ?_
 refine I3 (by kernel_rfl) (fun F1 hF1 => ?_)
 refine Cc false 1 (lsD 15 [0, 1, 2, 3, 4, 5, 6, 7, 8, 9, 10, 11, 12, 13]) ⟨[(8, (.map 2)), (9, (.str s)), (18, (.own 4))], [(0, (.row [(.ptr 1 0)] 32)), (1, (.row [(.int .i64 kind), (.int .i64 count), (.map 2)] 80)), (2, (.mm (A4 ps) (some s) 84 4)), (4, (.grow (((A4 ps) s) ++ ([(.agg [(.int .i64 o.id), (.bool o.own), (.int .i64 o.op), (.str o.evr)])] : List AV)) 84 4)), (5, (.row [(.int .i64 o.id), (.bool o.own), (.int .i64 o.op), (.str o.evr)] 84))], 6⟩ ?_ (fun m1_1 => ?_)
 ·refine F4 (fuel := 0) 14 (by kernel_rfl) ?_
  refine C4 (fuel := 0) 14 rfl ?_
  refine Pz (b := 2) (c := 4) (s := s) (s1 := s) (y := ⟨[(8, (.map 2)), (9, (.str s)), (18, (.own 4))], [(0, (.row [(.ptr 1 0)] 32)), (1, (.row [(.int .i64 kind), (.int .i64 count), (.map 2)] 80)), (2, (.mm (Dm (A4 ps) s (((A4 ps) s) ++ ([(.agg [(.int .i64 o.id), (.bool o.own), (.int .i64 o.op), (.str o.evr)])] : List AV))) none 84 4)), (5, (.row [(.int .i64 o.id), (.bool o.own), (.int .i64 o.op), (.str o.evr)] 84))], 6⟩) (by kernel_rfl) (by kernel_rfl) (by kernel_rfl) (by kernel_rfl) (by kernel_rfl) rfl Tryz.underlying78 Tryz.underlying9 (by kernel_rfl) rfl ?_
  refine B2 ⟨rfl, ?_⟩
  refine Ax [] ?_
  refine Gj (by kernel_rfl) ?_
  refine E4 (.inr rfl) (al := []) (by kernel_rfl) ?_ ((by kernel_rfl : Dk 3 _ = some [(0, (.row [(.ptr 1 0)] 32)), (1, (.row [(.int .i64 kind), (.int .i64 count), (.map 2)] 80)), (2, (.mm (Dm (A4 ps) s (((A4 ps) s) ++ ([(.agg [(.int .i64 o.id), (.bool o.own), (.int .i64 o.op), (.str o.evr)])] : List AV))) none 84 4))]).trans ?_)
  ·rfl
  ·rw [show (Dm (A4 ps) s (((A4 ps) s) ++ ([(.agg [(.int .i64 o.id), (.bool o.own), (.int .i64 o.op), (.str o.evr)])] : List AV))) = A4 (ps ++ [(s, o)]) from Wy ps s o] <;> kernel_rfl
 refine Cc false 1 (lsD 15 [0, 1, 2, 3, 4, 5, 6, 7, 8, 9, 10, 11, 12, 13]) ⟨[(8, (.map 2)), (9, (.str s)), (18, (.own 5))], [(0, (.row [(.ptr 1 0)] 32)), (1, (.row [(.int .i64 kind), (.int .i64 count), (.map 2)] 80)), (2, (.mm (A4 ps) (some s) 84 4)), (4, (.row [(.int .i64 o.id), (.bool o.own), (.int .i64 o.op), (.str o.evr)] 84)), (5, (.grow (((A4 ps) s) ++ ([(.agg [(.int .i64 o.id), (.bool o.own), (.int .i64 o.op), (.str o.evr)])] : List AV)) 84 4))], 6⟩ ?_ (fun m1_2 => ?_)
 ·refine F4 (fuel := 0) 14 (by kernel_rfl) ?_
  refine C4 (fuel := 0) 14 rfl ?_
  refine Pz (b := 2) (c := 5) (s := s) (s1 := s) (y := ⟨[(8, (.map 2)), (9, (.str s)), (18, (.own 5))], [(0, (.row [(.ptr 1 0)] 32)), (1, (.row [(.int .i64 kind), (.int .i64 count), (.map 2)] 80)), (2, (.mm (Dm (A4 ps) s (((A4 ps) s) ++ ([(.agg [(.int .i64 o.id), (.bool o.own), (.int .i64 o.op), (.str o.evr)])] : List AV))) none 84 4)), (4, (.row [(.int .i64 o.id), (.bool o.own), (.int .i64 o.op), (.str o.evr)] 84))], 6⟩) (by kernel_rfl) (by kernel_rfl) (by kernel_rfl) (by kernel_rfl) (by kernel_rfl) rfl Tryz.underlying78 Tryz.underlying9 (by kernel_rfl) rfl ?_
  refine B2 ⟨rfl, ?_⟩
  refine Ax [] ?_
  refine Gj (by kernel_rfl) ?_
  refine E4 (.inr rfl) (al := []) (by kernel_rfl) ?_ ((by kernel_rfl : Dk 3 _ = some [(0, (.row [(.ptr 1 0)] 32)), (1, (.row [(.int .i64 kind), (.int .i64 count), (.map 2)] 80)), (2, (.mm (Dm (A4 ps) s (((A4 ps) s) ++ ([(.agg [(.int .i64 o.id), (.bool o.own), (.int .i64 o.op), (.str o.evr)])] : List AV))) none 84 4))]).trans ?_)
  ·rfl
  ·rw [show (Dm (A4 ps) s (((A4 ps) s) ++ ([(.agg [(.int .i64 o.id), (.bool o.own), (.int .i64 o.op), (.str o.evr)])] : List AV))) = A4 (ps ++ [(s, o)]) from Wy ps s o] <;> kernel_rfl
 refine Cc false 2 (lsD 15 [0, 1, 2, 3, 4, 5, 6, 7, 8, 9, 10, 11, 12]) ⟨[(8, (.map 2)), (9, (.str s)), (15, (.own 4)), (17, (.sl 5 0 1 1 false))], [(0, (.row [(.ptr 1 0)] 32)), (1, (.row [(.int .i64 kind), (.int .i64 count), (.map 2)] 80)), (2, (.mm (A4 ps) (some s) 84 4)), (4, (.grow ((A4 ps) s) 84 4)), (5, (.row [(.int .i64 o.id), (.bool o.own), (.int .i64 o.op), (.str o.evr)] 84))], 6⟩ ?_ (fun m1_3 => ?_)
 ·refine Cq (fuel := 1) 13 [] (hold (p := ((((A4 ps) s).length + 1) * 40 ≤ 140737488355328)) (by first | omega | (simp; omega) | (simp; done) | (intros; simp_all; omega) | (intros; simp_all; done))) ?_
  refine Ax [8, 9, 18] ?_
  exact Bc m1_1
 refine Cc false 2 (lsD 15 [0, 1, 2, 3, 4, 5, 6, 7, 8, 9, 10, 11, 12]) ⟨[(8, (.map 2)), (9, (.str s)), (15, (.own 5)), (17, (.sl 4 0 1 1 false))], [(0, (.row [(.ptr 1 0)] 32)), (1, (.row [(.int .i64 kind), (.int .i64 count), (.map 2)] 80)), (2, (.mm (A4 ps) (some s) 84 4)), (4, (.row [(.int .i64 o.id), (.bool o.own), (.int .i64 o.op), (.str o.evr)] 84)), (5, (.grow ((A4 ps) s) 84 4))], 6⟩ ?_ (fun m1_4 => ?_)
 ·refine Cq (fuel := 1) 13 [] (hold (p := ((((A4 ps) s).length + 1) * 40 ≤ 140737488355328)) (by first | omega | (simp; omega) | (simp; done) | (intros; simp_all; omega) | (intros; simp_all; done))) ?_
  refine Ax [8, 9, 18] ?_
  exact Bc m1_2
 refine Cc false 2 (lsD 15 [0, 1, 2, 4, 5, 6, 7, 8, 9, 10, 11, 12, 13]) ⟨[(7, (.ptr 1 2)), (9, (.str s)), (18, (.own 4))], [(0, (.row [(.ptr 1 0)] 32)), (1, (.row [(.int .i64 kind), (.int .i64 count), (.map 2)] 80)), (2, (.mm (A4 ps) (some s) 84 4)), (4, (.grow (((A4 ps) s) ++ ([(.agg [(.int .i64 o.id), (.bool o.own), (.int .i64 o.op), (.str o.evr)])] : List AV)) 84 4)), (5, (.row [(.int .i64 o.id), (.bool o.own), (.int .i64 o.op), (.str o.evr)] 84))], 6⟩ ?_ (fun m1_5 => ?_)
 ·refine Cq (fuel := 1) 3 [] Az ?_
  refine Ax [8, 9, 18] ?_
  exact Bc m1_1
 refine Cc false 2 (lsD 15 [0, 1, 2, 4, 5, 6, 7, 8, 9, 10, 11, 12, 13]) ⟨[(7, (.ptr 1 2)), (9, (.str s)), (18, (.own 5))], [(0, (.row [(.ptr 1 0)] 32)), (1, (.row [(.int .i64 kind), (.int .i64 count), (.map 2)] 80)), (2, (.mm (A4 ps) (some s) 84 4)), (4, (.row [(.int .i64 o.id), (.bool o.own), (.int .i64 o.op), (.str o.evr)] 84)), (5, (.grow (((A4 ps) s) ++ ([(.agg [(.int .i64 o.id), (.bool o.own), (.int .i64 o.op), (.str o.evr)])] : List AV)) 84 4))], 6⟩ ?_ (fun m1_6 => ?_)
 ·refine Cq (fuel := 1) 3 [] Az ?_
  refine Ax [8, 9, 18] ?_
  exact Bc m1_2
 refine Cc false 3 (lsD 15 [0, 1, 2, 3, 4, 5, 6, 7, 8, 9, 10, 11]) ⟨[(8, (.map 2)), (9, (.str s)), (15, (.own 4)), (16, (.agg [(.int .i64 o.id), (.bool o.own), (.int .i64 o.op), (.str o.evr)]))], [(0, (.row [(.ptr 1 0)] 32)), (1, (.row [(.int .i64 kind), (.int .i64 count), (.map 2)] 80)), (2, (.mm (A4 ps) (some s) 84 4)), (4, (.grow ((A4 ps) s) 84 4))], 5⟩ ?_ (fun m1_7 => ?_)
 ·refine Cq (fuel := 2) 12 [] Az ?_
  refine Ax [8, 9, 15, 17] ?_
  exact Bc m1_3
 refine Cc true 3 (lsD 15 [0, 1, 2, 3, 4, 5, 6, 7, 8, 9, 11, 12]) ⟨[(8, (.map 2)), (9, (.str s)), (13, (.map 2)), (14, (.str s)), (17, (.sl 4 0 1 1 false))], [(0, (.row [(.ptr 1 0)] 32)), (1, (.row [(.int .i64 kind), (.int .i64 count), (.map 2)] 80)), (2, (.mm (A4 ps) none 84 4)), (4, (.row [(.int .i64 o.id), (.bool o.own), (.int .i64 o.op), (.str o.evr)] 84))], 5⟩ ?_ (fun m1_8 => ?_)
 ·refine F4 (fuel := 2) 10 (by kernel_rfl) ?_
  refine C4 (fuel := 2) 10 rfl ?_
  refine Ey (b := 2) (s := s) (y := ⟨[(8, (.map 2)), (9, (.str s)), (13, (.map 2)), (14, (.str s)), (17, (.sl 4 0 1 1 false)), (15, (.own 5))], [(0, (.row [(.ptr 1 0)] 32)), (1, (.row [(.int .i64 kind), (.int .i64 count), (.map 2)] 80)), (2, (.mm (A4 ps) (some s) 84 4)), (4, (.row [(.int .i64 o.id), (.bool o.own), (.int .i64 o.op), (.str o.evr)] 84)), (5, (.grow ((A4 ps) s) 84 4))], 6⟩) (by kernel_rfl) (by kernel_rfl) (by kernel_rfl) Tryz.underlying78 Tryz.underlying9 (fun _ => by kernel_rfl) (by kernel_rfl) ?_
  refine B2 ⟨rfl, ?_⟩
  refine Ax [8, 9, 15, 17] ?_
  exact Bc m1_4
 refine Cc false 3 (lsD 15 [0, 1, 2, 4, 5, 6, 7, 8, 9, 10, 11, 12]) ⟨[(7, (.ptr 1 2)), (9, (.str s)), (15, (.own 4)), (17, (.sl 5 0 1 1 false))], [(0, (.row [(.ptr 1 0)] 32)), (1, (.row [(.int .i64 kind), (.int .i64 count), (.map 2)] 80)), (2, (.mm (A4 ps) (some s) 84 4)), (4, (.grow ((A4 ps) s) 84 4)), (5, (.row [(.int .i64 o.id), (.bool o.own), (.int .i64 o.op), (.str o.evr)] 84))], 6⟩ ?_ (fun m1_9 => ?_)
 ·refine Ce 3 13 (by kernel_rfl) ?_ ?_
  ·refine Ba (fuel := 2) 3 [] Az ?_
   refine Ax [8, 9, 15, 17] ?_
   exact Bc m1_3
  ·refine Ba (fuel := 2) 13 [] (hold (p := ((((A4 ps) s).length + 1) * 40 ≤ 140737488355328)) (by first | omega | (simp; omega) | (simp; done) | (intros; simp_all; omega) | (intros; simp_all; done))) ?_
   refine Ax [7, 9, 18] ?_
   exact Bc m1_5
 refine Cc false 3 (lsD 15 [0, 1, 2, 4, 5, 6, 7, 8, 9, 10, 11, 12]) ⟨[(7, (.ptr 1 2)), (9, (.str s)), (15, (.own 5)), (17, (.sl 4 0 1 1 false))], [(0, (.row [(.ptr 1 0)] 32)), (1, (.row [(.int .i64 kind), (.int .i64 count), (.map 2)] 80)), (2, (.mm (A4 ps) (some s) 84 4)), (4, (.row [(.int .i64 o.id), (.bool o.own), (.int .i64 o.op), (.str o.evr)] 84)), (5, (.grow ((A4 ps) s) 84 4))], 6⟩ ?_ (fun m1_10 => ?_)
 ·refine Ce 3 13 (by kernel_rfl) ?_ ?_
  ·refine Ba (fuel := 2) 3 [] Az ?_
   refine Ax [8, 9, 15, 17] ?_
   exact Bc m1_4
  ·refine Ba (fuel := 2) 13 [] (hold (p := ((((A4 ps) s).length + 1) * 40 ≤ 140737488355328)) (by first | omega | (simp; omega) | (simp; done) | (intros; simp_all; omega) | (intros; simp_all; done))) ?_
   refine Ax [7, 9, 18] ?_
   exact Bc m1_6
 refine Cc true 4 (lsD 15 [0, 1, 2, 3, 4, 5, 6, 7, 8, 9, 11]) ⟨[(8, (.map 2)), (9, (.str s)), (13, (.map 2)), (14, (.str s)), (16, (.agg [(.int .i64 o.id), (.bool o.own), (.int .i64 o.op), (.str o.evr)]))], [(0, (.row [(.ptr 1 0)] 32)), (1, (.row [(.int .i64 kind), (.int .i64 count), (.map 2)] 80)), (2, (.mm (A4 ps) none 84 4))], 4⟩ ?_ (fun m1_11 => ?_)
 ·refine Ce 10 12 (by kernel_rfl) ?_ ?_
  ·refine C4 (fuel := 3) 10 rfl ?_
   refine Ey (b := 2) (s := s) (y := ⟨[(8, (.map 2)), (9, (.str s)), (13, (.map 2)), (14, (.str s)), (16, (.agg [(.int .i64 o.id), (.bool o.own), (.int .i64 o.op), (.str o.evr)])), (15, (.own 4))], [(0, (.row [(.ptr 1 0)] 32)), (1, (.row [(.int .i64 kind), (.int .i64 count), (.map 2)] 80)), (2, (.mm (A4 ps) (some s) 84 4)), (4, (.grow ((A4 ps) s) 84 4))], 5⟩) (by kernel_rfl) (by kernel_rfl) (by kernel_rfl) Tryz.underlying78 Tryz.underlying9 (fun _ => by kernel_rfl) (by kernel_rfl) ?_
   refine B2 ⟨rfl, ?_⟩
   refine Ax [8, 9, 15, 16] ?_
   exact Bc m1_7
  ·refine Ba (fuel := 3) 12 [] Az ?_
   refine Ax [8, 9, 13, 14, 17] ?_
   exact Bc m1_8
 refine Cc true 4 (lsD 15 [0, 1, 2, 3, 4, 5, 6, 7, 9, 11, 12]) ⟨[(8, (.map 2)), (9, (.str s)), (12, (.ptr 1 2)), (14, (.str s)), (17, (.sl 4 0 1 1 false))], [(0, (.row [(.ptr 1 0)] 32)), (1, (.row [(.int .i64 kind), (.int .i64 count), (.map 2)] 80)), (2, (.mm (A4 ps) none 84 4)), (4, (.row [(.int .i64 o.id), (.bool o.own), (.int .i64 o.op), (.str o.evr)] 84))], 5⟩ ?_ (fun m1_12 => ?_)
 ·refine Cq (fuel := 3) 8 [] Az ?_
  refine Ax [8, 9, 13, 14, 17] ?_
  exact Bc m1_8
 refine Cc false 4 (lsD 15 [0, 1, 2, 4, 5, 6, 7, 8, 9, 10, 11]) ⟨[(7, (.ptr 1 2)), (9, (.str s)), (15, (.own 4)), (16, (.agg [(.int .i64 o.id), (.bool o.own), (.int .i64 o.op), (.str o.evr)]))], [(0, (.row [(.ptr 1 0)] 32)), (1, (.row [(.int .i64 kind), (.int .i64 count), (.map 2)] 80)), (2, (.mm (A4 ps) (some s) 84 4)), (4, (.grow ((A4 ps) s) 84 4))], 5⟩ ?_ (fun m1_13 => ?_)
 ·refine Ce 3 12 (by kernel_rfl) ?_ ?_
  ·refine Ba (fuel := 3) 3 [] Az ?_
   refine Ax [8, 9, 15, 16] ?_
   exact Bc m1_7
  ·refine Ba (fuel := 3) 12 [] Az ?_
   refine Ax [7, 9, 15, 17] ?_
   exact Bc m1_9
 refine Cc true 4 (lsD 15 [0, 1, 2, 4, 5, 6, 7, 8, 9, 11, 12]) ⟨[(7, (.ptr 1 2)), (9, (.str s)), (13, (.map 2)), (14, (.str s)), (17, (.sl 4 0 1 1 false))], [(0, (.row [(.ptr 1 0)] 32)), (1, (.row [(.int .i64 kind), (.int .i64 count), (.map 2)] 80)), (2, (.mm (A4 ps) none 84 4)), (4, (.row [(.int .i64 o.id), (.bool o.own), (.int .i64 o.op), (.str o.evr)] 84))], 5⟩ ?_ (fun m1_14 => ?_)
 ·refine Ce 3 10 (by kernel_rfl) ?_ ?_
  ·refine Ba (fuel := 3) 3 [] Az ?_
   refine Ax [8, 9, 13, 14, 17] ?_
   exact Bc m1_8
  ·refine C4 (fuel := 3) 10 rfl ?_
   refine Ey (b := 2) (s := s) (y := ⟨[(7, (.ptr 1 2)), (9, (.str s)), (13, (.map 2)), (14, (.str s)), (17, (.sl 4 0 1 1 false)), (15, (.own 5))], [(0, (.row [(.ptr 1 0)] 32)), (1, (.row [(.int .i64 kind), (.int .i64 count), (.map 2)] 80)), (2, (.mm (A4 ps) (some s) 84 4)), (4, (.row [(.int .i64 o.id), (.bool o.own), (.int .i64 o.op), (.str o.evr)] 84)), (5, (.grow ((A4 ps) s) 84 4))], 6⟩) (by kernel_rfl) (by kernel_rfl) (by kernel_rfl) Tryz.underlying78 Tryz.underlying9 (fun _ => by kernel_rfl) (by kernel_rfl) ?_
   refine B2 ⟨rfl, ?_⟩
   refine Ax [7, 9, 15, 17] ?_
   exact Bc m1_10
 refine Cc true 5 (lsD 15 [0, 1, 2, 3, 4, 5, 6, 7, 9, 11]) ⟨[(8, (.map 2)), (9, (.str s)), (12, (.ptr 1 2)), (14, (.str s)), (16, (.agg [(.int .i64 o.id), (.bool o.own), (.int .i64 o.op), (.str o.evr)]))], [(0, (.row [(.ptr 1 0)] 32)), (1, (.row [(.int .i64 kind), (.int .i64 count), (.map 2)] 80)), (2, (.mm (A4 ps) none 84 4))], 4⟩ ?_ (fun m1_15 => ?_)
 ·refine Ce 8 12 (by kernel_rfl) ?_ ?_
  ·refine Ba (fuel := 4) 8 [] Az ?_
   refine Ax [8, 9, 13, 14, 16] ?_
   exact Bc m1_11
  ·refine Ba (fuel := 4) 12 [] Az ?_
   refine Ax [8, 9, 12, 14, 17] ?_
   exact Bc m1_12
 refine Cc true 5 (lsD 15 [0, 1, 2, 4, 5, 6, 7, 8, 9, 11]) ⟨[(7, (.ptr 1 2)), (9, (.str s)), (13, (.map 2)), (14, (.str s)), (16, (.agg [(.int .i64 o.id), (.bool o.own), (.int .i64 o.op), (.str o.evr)]))], [(0, (.row [(.ptr 1 0)] 32)), (1, (.row [(.int .i64 kind), (.int .i64 count), (.map 2)] 80)), (2, (.mm (A4 ps) none 84 4))], 4⟩ ?_ (fun m1_16 => ?_)
 ·refine Fl 3 10 12 (by kernel_rfl) ?_ ?_ ?_
  ·refine Ba (fuel := 4) 3 [] Az ?_
   refine Ax [8, 9, 13, 14, 16] ?_
   exact Bc m1_11
  ·refine C4 (fuel := 4) 10 rfl ?_
   refine Ey (b := 2) (s := s) (y := ⟨[(7, (.ptr 1 2)), (9, (.str s)), (13, (.map 2)), (14, (.str s)), (16, (.agg [(.int .i64 o.id), (.bool o.own), (.int .i64 o.op), (.str o.evr)])), (15, (.own 4))], [(0, (.row [(.ptr 1 0)] 32)), (1, (.row [(.int .i64 kind), (.int .i64 count), (.map 2)] 80)), (2, (.mm (A4 ps) (some s) 84 4)), (4, (.grow ((A4 ps) s) 84 4))], 5⟩) (by kernel_rfl) (by kernel_rfl) (by kernel_rfl) Tryz.underlying78 Tryz.underlying9 (fun _ => by kernel_rfl) (by kernel_rfl) ?_
   refine B2 ⟨rfl, ?_⟩
   refine Ax [7, 9, 15, 16] ?_
   exact Bc m1_13
  ·refine Ba (fuel := 4) 12 [] Az ?_
   refine Ax [7, 9, 13, 14, 17] ?_
   exact Bc m1_14
 refine Cc true 5 (lsD 15 [0, 1, 2, 4, 5, 6, 7, 9, 11, 12]) ⟨[(7, (.ptr 1 2)), (9, (.str s)), (12, (.ptr 1 2)), (14, (.str s)), (17, (.sl 4 0 1 1 false))], [(0, (.row [(.ptr 1 0)] 32)), (1, (.row [(.int .i64 kind), (.int .i64 count), (.map 2)] 80)), (2, (.mm (A4 ps) none 84 4)), (4, (.row [(.int .i64 o.id), (.bool o.own), (.int .i64 o.op), (.str o.evr)] 84))], 5⟩ ?_ (fun m1_17 => ?_)
 ·refine Ce 3 8 (by kernel_rfl) ?_ ?_
  ·refine Ba (fuel := 4) 3 [] Az ?_
   refine Ax [8, 9, 12, 14, 17] ?_
   exact Bc m1_12
  ·refine Ba (fuel := 4) 8 [] Az ?_
   refine Ax [7, 9, 13, 14, 17] ?_
   exact Bc m1_14
 refine Cc true 7 (lsD 15 [0, 1, 2, 3, 4, 9, 11, 12]) ⟨[(2, (.ptr 0 0)), (8, (.map 2)), (9, (.str s)), (14, (.str s)), (17, (.sl 4 0 1 1 false))], [(0, (.row [(.ptr 1 0)] 32)), (1, (.row [(.int .i64 kind), (.int .i64 count), (.map 2)] 80)), (2, (.mm (A4 ps) none 84 4)), (4, (.row [(.int .i64 o.id), (.bool o.own), (.int .i64 o.op), (.str o.evr)] 84))], 5⟩ ?_ (fun m1_18 => ?_)
 ·refine Cq (fuel := 6) 5 [] Az ?_
  refine Cs (fuel := 4) [] [6, 7] [8, 9, 12, 14, 17] Az ?_
  refine Cq (fuel := 3) 8 [] Az ?_
  refine Ax [8, 9, 13, 14, 17] ?_
  exact Bc m1_8
 refine Cc true 7 (lsD 15 [0, 1, 2, 4, 5, 9, 11, 12]) ⟨[(7, (.ptr 1 2)), (9, (.str s)), (10, (.ptr 1 0)), (14, (.str s)), (17, (.sl 4 0 1 1 false))], [(0, (.row [(.ptr 1 0)] 32)), (1, (.row [(.int .i64 kind), (.int .i64 count), (.map 2)] 80)), (2, (.mm (A4 ps) none 84 4)), (4, (.row [(.int .i64 o.id), (.bool o.own), (.int .i64 o.op), (.str o.evr)] 84))], 5⟩ ?_ (fun m1_19 => ?_)
 ·refine Cs (fuel := 5) [] [6, 7] [7, 9, 12, 14, 17] Az ?_
  refine Ce 3 8 (by kernel_rfl) ?_ ?_
  ·refine Ba (fuel := 4) 3 [] Az ?_
   refine Ax [8, 9, 12, 14, 17] ?_
   exact Bc m1_12
  ·refine Ba (fuel := 4) 8 [] Az ?_
   refine Ax [7, 9, 13, 14, 17] ?_
   exact Bc m1_14
 refine Cc true 7 (lsD 15 [4, 5, 6, 7, 8, 9, 11, 12]) ⟨[(2, (.ptr 0 0)), (9, (.str s)), (13, (.map 2)), (14, (.str s)), (17, (.sl 4 0 1 1 false))], [(0, (.row [(.ptr 1 0)] 32)), (1, (.row [(.int .i64 kind), (.int .i64 count), (.map 2)] 80)), (2, (.mm (A4 ps) none 84 4)), (4, (.row [(.int .i64 o.id), (.bool o.own), (.int .i64 o.op), (.str o.evr)] 84))], 5⟩ ?_ (fun m1_20 => ?_)
 ·refine Ce 0 10 (by kernel_rfl) ?_ ?_
  ·refine Ba (fuel := 6) 0 [] Az ?_
   refine Ax [5, 9, 13, 14, 17] ?_
   refine Cs (fuel := 4) [] [1, 2] [7, 9, 13, 14, 17] Az ?_
   refine Ce 3 10 (by kernel_rfl) ?_ ?_
   ·refine Ba (fuel := 3) 3 [] Az ?_
    refine Ax [8, 9, 13, 14, 17] ?_
    exact Bc m1_8
   ·refine C4 (fuel := 3) 10 rfl ?_
    refine Ey (b := 2) (s := s) (y := ⟨[(7, (.ptr 1 2)), (9, (.str s)), (13, (.map 2)), (14, (.str s)), (17, (.sl 4 0 1 1 false)), (15, (.own 5))], [(0, (.row [(.ptr 1 0)] 32)), (1, (.row [(.int .i64 kind), (.int .i64 count), (.map 2)] 80)), (2, (.mm (A4 ps) (some s) 84 4)), (4, (.row [(.int .i64 o.id), (.bool o.own), (.int .i64 o.op), (.str o.evr)] 84)), (5, (.grow ((A4 ps) s) 84 4))], 6⟩) (by kernel_rfl) (by kernel_rfl) (by kernel_rfl) Tryz.underlying78 Tryz.underlying9 (fun _ => by kernel_rfl) (by kernel_rfl) ?_
    refine B2 ⟨rfl, ?_⟩
    refine Ax [7, 9, 15, 17] ?_
    exact Bc m1_10
  ·refine C4 (fuel := 6) 10 rfl ?_
   refine Ey (b := 2) (s := s) (y := ⟨[(2, (.ptr 0 0)), (9, (.str s)), (13, (.map 2)), (14, (.str s)), (17, (.sl 4 0 1 1 false)), (15, (.own 5))], [(0, (.row [(.ptr 1 0)] 32)), (1, (.row [(.int .i64 kind), (.int .i64 count), (.map 2)] 80)), (2, (.mm (A4 ps) (some s) 84 4)), (4, (.row [(.int .i64 o.id), (.bool o.own), (.int .i64 o.op), (.str o.evr)] 84)), (5, (.grow ((A4 ps) s) 84 4))], 6⟩) (by kernel_rfl) (by kernel_rfl) (by kernel_rfl) Tryz.underlying78 Tryz.underlying9 (fun _ => by kernel_rfl) (by kernel_rfl) ?_
   refine B2 ⟨rfl, ?_⟩
   refine Ax [2, 9, 15, 17] ?_
   refine Ce 0 13 (by kernel_rfl) ?_ ?_
   ·refine Ba (fuel := 5) 0 [] Az ?_
    refine Ax [5, 9, 15, 17] ?_
    refine Cs (fuel := 3) [] [1, 2] [7, 9, 15, 17] Az ?_
    refine Ce 3 13 (by kernel_rfl) ?_ ?_
    ·refine Ba (fuel := 2) 3 [] Az ?_
     refine Ax [8, 9, 15, 17] ?_
     exact Bc m1_4
    ·refine Ba (fuel := 2) 13 [] (hold (p := ((((A4 ps) s).length + 1) * 40 ≤ 140737488355328)) (by first | omega | (simp; omega) | (simp; done) | (intros; simp_all; omega) | (intros; simp_all; done))) ?_
     refine Ax [7, 9, 18] ?_
     exact Bc m1_6
   ·refine Ba (fuel := 5) 13 [] (hold (p := ((((A4 ps) s).length + 1) * 40 ≤ 140737488355328)) (by first | omega | (simp; omega) | (simp; done) | (intros; simp_all; omega) | (intros; simp_all; done))) ?_
    refine Ax [2, 9, 18] ?_
    refine Cq (fuel := 4) 0 [] Az ?_
    refine Cs (fuel := 2) [] [1, 2] [7, 9, 18] Az ?_
    refine Cq (fuel := 1) 3 [] Az ?_
    refine Ax [8, 9, 18] ?_
    exact Bc m1_2
 refine Cc true 7 (lsD 15 [0, 4, 5, 6, 7, 9, 11, 12]) ⟨[(5, (.ptr 1 0)), (9, (.str s)), (12, (.ptr 1 2)), (14, (.str s)), (17, (.sl 4 0 1 1 false))], [(0, (.row [(.ptr 1 0)] 32)), (1, (.row [(.int .i64 kind), (.int .i64 count), (.map 2)] 80)), (2, (.mm (A4 ps) none 84 4)), (4, (.row [(.int .i64 o.id), (.bool o.own), (.int .i64 o.op), (.str o.evr)] 84))], 5⟩ ?_ (fun m1_21 => ?_)
 ·refine Cs (fuel := 5) [] [1, 2] [7, 9, 12, 14, 17] Az ?_
  refine Ce 3 8 (by kernel_rfl) ?_ ?_
  ·refine Ba (fuel := 4) 3 [] Az ?_
   refine Ax [8, 9, 12, 14, 17] ?_
   exact Bc m1_12
  ·refine Ba (fuel := 4) 8 [] Az ?_
   refine Ax [7, 9, 13, 14, 17] ?_
   exact Bc m1_14
 refine Cs (fuel := 12) [] [4, 9, 11] [2, 9, 14, 16] Az ?_
 refine Fl 0 5 12 (by kernel_rfl) ?_ ?_ ?_
 ·refine Ba (fuel := 11) 0 [] Az ?_
  refine Ax [2, 5, 9, 14, 16] ?_
  refine Cs (fuel := 9) [] [1, 2] [2, 7, 9, 14, 16] Az ?_
  refine Fl 3 5 12 (by kernel_rfl) ?_ ?_ ?_
  ·refine Ba (fuel := 8) 3 [] Az ?_
   refine Ax [2, 8, 9, 14, 16] ?_
   refine Ce 5 12 (by kernel_rfl) ?_ ?_
   ·refine Ba (fuel := 7) 5 [] Az ?_
    refine Ax [8, 9, 10, 14, 16] ?_
    refine Cs (fuel := 5) [] [6, 7] [8, 9, 12, 14, 16] Az ?_
    refine Ce 8 12 (by kernel_rfl) ?_ ?_
    ·refine Ba (fuel := 4) 8 [] Az ?_
     refine Ax [8, 9, 13, 14, 16] ?_
     exact Bc m1_11
    ·refine Ba (fuel := 4) 12 [] Az ?_
     refine Ax [8, 9, 12, 14, 17] ?_
     exact Bc m1_12
   ·refine Ba (fuel := 7) 12 [] Az ?_
    refine Ax [2, 8, 9, 14, 17] ?_
    exact Bc m1_18
  ·refine Ba (fuel := 8) 5 [] Az ?_
   refine Ax [7, 9, 10, 14, 16] ?_
   refine Cs (fuel := 6) [] [6, 7] [7, 9, 12, 14, 16] Az ?_
   refine Fl 3 8 12 (by kernel_rfl) ?_ ?_ ?_
   ·refine Ba (fuel := 5) 3 [] Az ?_
    refine Ax [8, 9, 12, 14, 16] ?_
    exact Bc m1_15
   ·refine Ba (fuel := 5) 8 [] Az ?_
    refine Ax [7, 9, 13, 14, 16] ?_
    exact Bc m1_16
   ·refine Ba (fuel := 5) 12 [] Az ?_
    refine Ax [7, 9, 12, 14, 17] ?_
    exact Bc m1_17
  ·refine Ba (fuel := 8) 12 [] Az ?_
   refine Ax [2, 7, 9, 14, 17] ?_
   refine Ce 3 5 (by kernel_rfl) ?_ ?_
   ·refine Ba (fuel := 7) 3 [] Az ?_
    refine Ax [2, 8, 9, 14, 17] ?_
    exact Bc m1_18
   ·refine Ba (fuel := 7) 5 [] Az ?_
    refine Ax [7, 9, 10, 14, 17] ?_
    exact Bc m1_19
 ·refine Ba (fuel := 11) 5 [] Az ?_
  refine Ax [2, 9, 10, 14, 16] ?_
  refine Cs (fuel := 9) [] [6, 7] [2, 9, 12, 14, 16] Az ?_
  refine Fl 0 8 12 (by kernel_rfl) ?_ ?_ ?_
  ·refine Ba (fuel := 8) 0 [] Az ?_
   refine Ax [5, 9, 12, 14, 16] ?_
   refine Cs (fuel := 6) [] [1, 2] [7, 9, 12, 14, 16] Az ?_
   refine Fl 3 8 12 (by kernel_rfl) ?_ ?_ ?_
   ·refine Ba (fuel := 5) 3 [] Az ?_
    refine Ax [8, 9, 12, 14, 16] ?_
    exact Bc m1_15
   ·refine Ba (fuel := 5) 8 [] Az ?_
    refine Ax [7, 9, 13, 14, 16] ?_
    exact Bc m1_16
   ·refine Ba (fuel := 5) 12 [] Az ?_
    refine Ax [7, 9, 12, 14, 17] ?_
    exact Bc m1_17
  ·refine Ba (fuel := 8) 8 [] Az ?_
   refine Ax [2, 9, 13, 14, 16] ?_
   refine Fl 0 10 12 (by kernel_rfl) ?_ ?_ ?_
   ·refine Ba (fuel := 7) 0 [] Az ?_
    refine Ax [5, 9, 13, 14, 16] ?_
    refine Cs (fuel := 5) [] [1, 2] [7, 9, 13, 14, 16] Az ?_
    refine Fl 3 10 12 (by kernel_rfl) ?_ ?_ ?_
    ·refine Ba (fuel := 4) 3 [] Az ?_
     refine Ax [8, 9, 13, 14, 16] ?_
     exact Bc m1_11
    ·refine C4 (fuel := 4) 10 rfl ?_
     refine Ey (b := 2) (s := s) (y := ⟨[(7, (.ptr 1 2)), (9, (.str s)), (13, (.map 2)), (14, (.str s)), (16, (.agg [(.int .i64 o.id), (.bool o.own), (.int .i64 o.op), (.str o.evr)])), (15, (.own 4))], [(0, (.row [(.ptr 1 0)] 32)), (1, (.row [(.int .i64 kind), (.int .i64 count), (.map 2)] 80)), (2, (.mm (A4 ps) (some s) 84 4)), (4, (.grow ((A4 ps) s) 84 4))], 5⟩) (by kernel_rfl) (by kernel_rfl) (by kernel_rfl) Tryz.underlying78 Tryz.underlying9 (fun _ => by kernel_rfl) (by kernel_rfl) ?_
     refine B2 ⟨rfl, ?_⟩
     refine Ax [7, 9, 15, 16] ?_
     exact Bc m1_13
    ·refine Ba (fuel := 4) 12 [] Az ?_
     refine Ax [7, 9, 13, 14, 17] ?_
     exact Bc m1_14
   ·refine C4 (fuel := 7) 10 rfl ?_
    refine Ey (b := 2) (s := s) (y := ⟨[(2, (.ptr 0 0)), (9, (.str s)), (13, (.map 2)), (14, (.str s)), (16, (.agg [(.int .i64 o.id), (.bool o.own), (.int .i64 o.op), (.str o.evr)])), (15, (.own 4))], [(0, (.row [(.ptr 1 0)] 32)), (1, (.row [(.int .i64 kind), (.int .i64 count), (.map 2)] 80)), (2, (.mm (A4 ps) (some s) 84 4)), (4, (.grow ((A4 ps) s) 84 4))], 5⟩) (by kernel_rfl) (by kernel_rfl) (by kernel_rfl) Tryz.underlying78 Tryz.underlying9 (fun _ => by kernel_rfl) (by kernel_rfl) ?_
    refine B2 ⟨rfl, ?_⟩
    refine Ax [2, 9, 15, 16] ?_
    refine Ce 0 12 (by kernel_rfl) ?_ ?_
    ·refine Ba (fuel := 6) 0 [] Az ?_
     refine Ax [5, 9, 15, 16] ?_
     refine Cs (fuel := 4) [] [1, 2] [7, 9, 15, 16] Az ?_
     refine Ce 3 12 (by kernel_rfl) ?_ ?_
     ·refine Ba (fuel := 3) 3 [] Az ?_
      refine Ax [8, 9, 15, 16] ?_
      exact Bc m1_7
     ·refine Ba (fuel := 3) 12 [] Az ?_
      refine Ax [7, 9, 15, 17] ?_
      exact Bc m1_9
    ·refine Ba (fuel := 6) 12 [] Az ?_
     refine Ax [2, 9, 15, 17] ?_
     refine Ce 0 13 (by kernel_rfl) ?_ ?_
     ·refine Ba (fuel := 5) 0 [] Az ?_
      refine Ax [5, 9, 15, 17] ?_
      refine Cs (fuel := 3) [] [1, 2] [7, 9, 15, 17] Az ?_
      refine Ce 3 13 (by kernel_rfl) ?_ ?_
      ·refine Ba (fuel := 2) 3 [] Az ?_
       refine Ax [8, 9, 15, 17] ?_
       exact Bc m1_3
      ·refine Ba (fuel := 2) 13 [] (hold (p := ((((A4 ps) s).length + 1) * 40 ≤ 140737488355328)) (by first | omega | (simp; omega) | (simp; done) | (intros; simp_all; omega) | (intros; simp_all; done))) ?_
       refine Ax [7, 9, 18] ?_
       exact Bc m1_5
     ·refine Ba (fuel := 5) 13 [] (hold (p := ((((A4 ps) s).length + 1) * 40 ≤ 140737488355328)) (by first | omega | (simp; omega) | (simp; done) | (intros; simp_all; omega) | (intros; simp_all; done))) ?_
      refine Ax [2, 9, 18] ?_
      refine Cq (fuel := 4) 0 [] Az ?_
      refine Cs (fuel := 2) [] [1, 2] [7, 9, 18] Az ?_
      refine Cq (fuel := 1) 3 [] Az ?_
      refine Ax [8, 9, 18] ?_
      exact Bc m1_1
   ·refine Ba (fuel := 7) 12 [] Az ?_
    refine Ax [2, 9, 13, 14, 17] ?_
    exact Bc m1_20
  ·refine Ba (fuel := 8) 12 [] Az ?_
   refine Ax [2, 9, 12, 14, 17] ?_
   refine Ce 0 8 (by kernel_rfl) ?_ ?_
   ·refine Ba (fuel := 7) 0 [] Az ?_
    refine Ax [5, 9, 12, 14, 17] ?_
    exact Bc m1_21
   ·refine Ba (fuel := 7) 8 [] Az ?_
    refine Ax [2, 9, 13, 14, 17] ?_
    exact Bc m1_20
 ·refine Ba (fuel := 11) 12 [] Az ?_
  refine Ax [2, 9, 14, 17] ?_
  refine Ce 0 5 (by kernel_rfl) ?_ ?_
  ·refine Ba (fuel := 10) 0 [] Az ?_
   refine Ax [2, 5, 9, 14, 17] ?_
   refine Cs (fuel := 8) [] [1, 2] [2, 7, 9, 14, 17] Az ?_
   refine Ce 3 5 (by kernel_rfl) ?_ ?_
   ·refine Ba (fuel := 7) 3 [] Az ?_
    refine Ax [2, 8, 9, 14, 17] ?_
    exact Bc m1_18
   ·refine Ba (fuel := 7) 5 [] Az ?_
    refine Ax [7, 9, 10, 14, 17] ?_
    exact Bc m1_19
  ·refine Ba (fuel := 10) 5 [] Az ?_
   refine Ax [2, 9, 10, 14, 17] ?_
   refine Cs (fuel := 8) [] [6, 7] [2, 9, 12, 14, 17] Az ?_
   refine Ce 0 8 (by kernel_rfl) ?_ ?_
   ·refine Ba (fuel := 7) 0 [] Az ?_
    refine Ax [5, 9, 12, 14, 17] ?_
    exact Bc m1_21
   ·refine Ba (fuel := 7) 8 [] Az ?_
    refine Ax [2, 9, 13, 14, 17] ?_
    exact Bc m1_20
set_option maxHeartbeats 1000000 in
set_option maxRecDepth 100000 in
theorem Q56 (st : PoolT) (hal : st.all.length ≤ 200) (hs : ∀ i, i < st.all.length → (nth st.all i).1.size ≤ 4194304) :
  FnV Tryz.prog 10 [(.fp (Bx st))] (.fp (Cw st)) := by
 refine A1 [.tmp 2] Tryz.func10 rfl Tryz.ntmps10 rfl rfl (fun B F hF => ?_)
 refine Aa [] [0] ?_
 refine Ab ?_
 refine Aa [] [0, 14] ?_
 refine D6 (by kernel_rfl) ?_
 refine Ag ?_
 refine Ad [] [0, 3] [] (hk 1 Zm (Q2s st) <| hk 3 Zl (Q2r st) <| hk0) v0 c0 ?_
 refine Ab ?_
 refine Aa [] [0, 3, 25, 26] ?_
 refine A0 ?_
 refine Q19 0 84 4 (y := ⟨[(0, (.fp (Bx st))), (3, (.ptr 2 0)), (25, (.int .i64 ((st.all.length : Int)))), (26, (.int .i64 0))], [(0, (.mm (fun _ => []) none 84 4)), (1, (.row [(.int .i64 st.kind), (.int .i64 ((st.all.length : Int))), (.map 0)] 80)), (2, (.row [(.ptr 1 0)] 32))], 3⟩) (by kernel_rfl) ?_
 refine Bq (fun g y => ∃ (i : Nat), i ≤ st.all.length ∧ y = ⟨[(0, (.fp (Bx st))), (3, (.ptr 2 0)), (25, (.int .i64 ((st.all.length : Int)))), (26, (.int .i64 ((i : Int))))], [(0, (.mm (A4 (Bf st.all i)) none 84 4)), (1, (.row [(.int .i64 st.kind), (.int .i64 ((st.all.length : Int))), (.map 0)] 80)), (2, (.row [(.ptr 1 0)] 32))], 3⟩ ∧ g = st.all.length - i) [0, 3, 25, 26] 3 _ (by omega) ⟨0, (by omega), (by kernel_rfl), rfl⟩ ?_
 rintro g1 y1 ⟨i, f1_1, rfl, rfl⟩
 refine Aa [] [0, 3, 25, 26, 27] ?_
 refine Ab ?_
 refine A2 (p := (i : Int) < (st.all.length : Int)) (by kernel_rfl) (fun c1 => ?_) (fun c1 => ?_)
 ·have hpl := Vt (l := st.all) hs i (by omega)
  have hsz := (nth st.all i).1.sizes
  have hsi := hs i (by omega)
  have hpv : (nth st.all i).1.provides.length ≤ 4194304 := by have := Ew (nth st.all i).1.provides; unfold PkgT.depSize at hsz; omega
  have hfl : (nth st.all i).1.files.length ≤ 4194304 := by have := Jw (nth st.all i).1.files; omega
  refine Ag ?_
  refine Ab ?_
  refine A0 ?_
  refine Aa [] [0, 3, 4, 25, 26] ?_
  refine Ad [] [0, 3, 4, 5, 25, 26] [(9, 5)] (hk 2 Ms (Na st i (by omega) (hs i (by omega))) <| hk0) v0 c0 ?_
  refine Aa [] [0, 3, 4, 5, 8, 25, 26] ?_
  refine Ab ?_
  refine Ar ?_
  refine Bv 7 0 [] [0, 3, 4, 5, 8, 25, 26, 37, 39, 43] [] hk0 v0 c0 ?_
  refine P1 [2, 1, 0] (f := 45) (cap := [(.ptr 2 0)]) (al := [(.str (((nth st.all i).1).name)), (.agg [(.int .i64 ((i : Int))), (.bool true), (.int .i64 2), (.str (((nth st.all i).1).evr))])]) (al' := [(.str (((nth st.all i).1).name)), (.agg [(.int .i64 ((i : Int))), (.bool true), (.int .i64 2), (.str (((nth st.all i).1).evr))]), (.ptr 0 0)]) (r := (.tup [])) (r' := (.tup [])) (s' := [(0, (.fp (Bx st))), (3, (.ptr 2 0)), (4, (.int .i64 ((i : Int)))), (5, (.fp (Aq ((nth st.all i).1)))), (8, (.fn 45 [] [(.ptr 2 0)])), (25, (.int .i64 ((st.all.length : Int)))), (26, (.int .i64 ((i : Int)))), (37, (.fn 45 [] [(.ptr 2 0)])), (39, (.str (((nth st.all i).1).name))), (43, (.agg [(.int .i64 ((i : Int))), (.bool true), (.int .i64 2), (.str (((nth st.all i).1).evr))])), (44, (.tup []))]) (H := [(0, (.row [(.ptr 1 0)] 32)), (1, (.row [(.int .i64 st.kind), (.int .i64 ((st.all.length : Int))), (.map 2)] 80)), (2, (.mm (A4 (Bf st.all i)) none 84 4))]) (H' := [(0, (.row [(.ptr 1 0)] 32)), (1, (.row [(.int .i64 st.kind), (.int .i64 ((st.all.length : Int))), (.map 2)] 80)), (2, (.mm (A4 (Bf st.all i ++ [((nth st.all i).1.name, (⟨(i : Int), true, 2, (nth st.all i).1.evr⟩ : OfferT))])) none 84 4))]) (h2 := [(0, (.mm (A4 (Bf st.all i ++ [((nth st.all i).1.name, (⟨(i : Int), true, 2, (nth st.all i).1.evr⟩ : OfferT))])) none 84 4)), (1, (.row [(.int .i64 st.kind), (.int .i64 ((st.all.length : Int))), (.map 0)] 80)), (2, (.row [(.ptr 1 0)] 32))]) (by kernel_rfl) (by kernel_rfl) (by exact Sj) (by kernel_rfl) (by kernel_rfl) (by kernel_rfl) (by kernel_rfl) (by kernel_rfl) (Q9 st.kind (st.all.length : Int) (Bf st.all i) ((nth st.all i).1.name) ⟨(i : Int), true, 2, (nth st.all i).1.evr⟩ (Nat.le_trans (Oi _ _) (by first | (simp only [List.length_append]; have := N6 (i := i) (p := (nth st.all i).1) (j := 0); have := N5 (i := i) (p := (nth st.all i).1) (j := 0); omega) | omega))) (by kernel_rfl) (by kernel_rfl) (by kernel_rfl) ?_
  refine B2 ?_
  refine Ab ?_
  refine Aa [] [0, 3, 4, 5, 8, 25, 26, 46, 47, 48] ?_
  refine A0 ?_
  refine Bq (fun g y => ∃ (j : Nat), j ≤ (nth st.all i).1.provides.length ∧ y = ⟨[(0, (.fp (Bx st))), (3, (.ptr 2 0)), (4, (.int .i64 ((i : Int)))), (5, (.fp (Aq ((nth st.all i).1)))), (8, (.fn 45 [] [(.ptr 2 0)])), (25, (.int .i64 ((st.all.length : Int)))), (26, (.int .i64 ((i : Int)))), (46, (Ai 5 A9 (((nth st.all i).1).provides))), (47, (.int .i64 (((((nth st.all i).1).provides).length : Int)))), (48, (.int .i64 ((j : Int))))], [(0, (.mm (A4 (Bf st.all i ++ Ea i (nth st.all i).1 j)) none 84 4)), (1, (.row [(.int .i64 st.kind), (.int .i64 ((st.all.length : Int))), (.map 0)] 80)), (2, (.row [(.ptr 1 0)] 32))], 4⟩ ∧ g = (nth st.all i).1.provides.length - j) [0, 3, 4, 5, 8, 25, 26, 46, 47, 48] 4 _ (by omega) ⟨0, (by omega), (by kernel_rfl), rfl⟩ ?_
  rintro g2 y2 ⟨j, f2_1, rfl, rfl⟩
  refine Aa [] [0, 3, 4, 5, 8, 25, 26, 46, 47, 48, 49] ?_
  refine Ab ?_
  refine A2 (p := (j : Int) < ((((nth st.all i).1).provides).length : Int)) (by kernel_rfl) (fun c2 => ?_) (fun c2 => ?_)
  ·refine Ag ?_
   refine Ab ?_
   refine A0 ?_
   refine Ad [] [0, 3, 4, 5, 8, 10, 25, 26, 46, 47, 48] [] hk0 v0 (cc 0 (p := (0 ≤ (j : Int) ∧ j < (((nth st.all i).1).provides).length)) (by first | omega | (simp; omega) | (simp; done) | (intros; simp_all; omega) | (intros; simp_all; done)) <| c0) ?_
   refine Ar ?_
   refine Bv 9 0 [] [0, 3, 4, 5, 8, 25, 26, 46, 47, 48, 52, 54, 60] [(0, 10)] hk0 v0 c0 ?_
   refine P1 [2, 1, 0] (f := 45) (cap := [(.ptr 2 0)]) (al := [(.str ((nth (((nth st.all i).1).provides) j).name)), (.agg [(.int .i64 ((i : Int))), (.bool false), (.int .i64 ((nth (((nth st.all i).1).provides) j).op)), (.str ((nth (((nth st.all i).1).provides) j).evr))])]) (al' := [(.str ((nth (((nth st.all i).1).provides) j).name)), (.agg [(.int .i64 ((i : Int))), (.bool false), (.int .i64 ((nth (((nth st.all i).1).provides) j).op)), (.str ((nth (((nth st.all i).1).provides) j).evr))]), (.ptr 0 0)]) (r := (.tup [])) (r' := (.tup [])) (s' := [(0, (.fp (Bx st))), (3, (.ptr 2 0)), (4, (.int .i64 ((i : Int)))), (5, (.fp (Aq ((nth st.all i).1)))), (8, (.fn 45 [] [(.ptr 2 0)])), (25, (.int .i64 ((st.all.length : Int)))), (26, (.int .i64 ((i : Int)))), (46, (Ai 5 A9 (((nth st.all i).1).provides))), (47, (.int .i64 (((((nth st.all i).1).provides).length : Int)))), (48, (.int .i64 ((j : Int)))), (52, (.fn 45 [] [(.ptr 2 0)])), (54, (.str ((nth (((nth st.all i).1).provides) j).name))), (60, (.agg [(.int .i64 ((i : Int))), (.bool false), (.int .i64 ((nth (((nth st.all i).1).provides) j).op)), (.str ((nth (((nth st.all i).1).provides) j).evr))])), (61, (.tup []))]) (H := [(0, (.row [(.ptr 1 0)] 32)), (1, (.row [(.int .i64 st.kind), (.int .i64 ((st.all.length : Int))), (.map 2)] 80)), (2, (.mm (A4 (Bf st.all i ++ Ea i (nth st.all i).1 j)) none 84 4))]) (H' := [(0, (.row [(.ptr 1 0)] 32)), (1, (.row [(.int .i64 st.kind), (.int .i64 ((st.all.length : Int))), (.map 2)] 80)), (2, (.mm (A4 (Bf st.all i ++ Ea i (nth st.all i).1 j ++ [((nth (nth st.all i).1.provides j).name, (⟨(i : Int), false, (nth (nth st.all i).1.provides j).op, (nth (nth st.all i).1.provides j).evr⟩ : OfferT))])) none 84 4))]) (h2 := [(0, (.mm (A4 (Bf st.all i ++ Ea i (nth st.all i).1 j ++ [((nth (nth st.all i).1.provides j).name, (⟨(i : Int), false, (nth (nth st.all i).1.provides j).op, (nth (nth st.all i).1.provides j).evr⟩ : OfferT))])) none 84 4)), (1, (.row [(.int .i64 st.kind), (.int .i64 ((st.all.length : Int))), (.map 0)] 80)), (2, (.row [(.ptr 1 0)] 32))]) (by kernel_rfl) (by kernel_rfl) (by exact Sj) (by kernel_rfl) (by kernel_rfl) (by kernel_rfl) (by kernel_rfl) (by kernel_rfl) (Q9 st.kind (st.all.length : Int) (Bf st.all i ++ Ea i (nth st.all i).1 j) ((nth (nth st.all i).1.provides j).name) ⟨(i : Int), false, (nth (nth st.all i).1.provides j).op, (nth (nth st.all i).1.provides j).evr⟩ (Nat.le_trans (Oi _ _) (by first | (simp only [List.length_append]; have := N6 (i := i) (p := (nth st.all i).1) (j := j); have := N5 (i := i) (p := (nth st.all i).1) (j := j); omega) | omega))) (by kernel_rfl) (by kernel_rfl) (by kernel_rfl) ?_
   refine B2 ?_
   refine Ar ?_
   refine Aw 0 [] [0, 3, 4, 5, 8, 25, 26, 46, 47, 48] [] hk0 v0 (cc 0 (p := (-9223372036854775808 ≤ (j : Int) + 1 ∧ (j : Int) + 1 ≤ 9223372036854775807)) (by first | omega | (simp; omega) | (simp; done) | (intros; simp_all; omega) | (intros; simp_all; done)) <| c0) ?_
   refine ⟨by kernel_rfl, _, ?_, j + 1, ?_, (Eq.trans (b := (⟨[(0, (.fp (Bx st))), (3, (.ptr 2 0)), (4, (.int .i64 ((i : Int)))), (5, (.fp (Aq ((nth st.all i).1)))), (8, (.fn 45 [] [(.ptr 2 0)])), (25, (.int .i64 ((st.all.length : Int)))), (26, (.int .i64 ((i : Int)))), (46, (Ai 5 A9 (((nth st.all i).1).provides))), (47, (.int .i64 (((((nth st.all i).1).provides).length : Int)))), (48, (.int .i64 ((j : Int) + 1)))], [(0, (.mm (A4 (Bf st.all i ++ Ea i (nth st.all i).1 j ++ [((nth (nth st.all i).1.provides j).name, (⟨(i : Int), false, (nth (nth st.all i).1.provides j).op, (nth (nth st.all i).1.provides j).evr⟩ : OfferT))])) none 84 4)), (1, (.row [(.int .i64 st.kind), (.int .i64 ((st.all.length : Int))), (.map 0)] 80)), (2, (.row [(.ptr 1 0)] 32))], 4⟩ : St)) (by kernel_rfl) (by rw [Q51 (by omega), ← List.append_assoc] <;> kernel_rfl)), rfl⟩
   ·omega
   ·omega
  ·refine Bj ?_
   refine Aa [] [0, 3, 4, 8, 25, 26, 64, 65, 66] ?_
   refine A0 ?_
   refine Bq (fun g y => ∃ (j : Nat), j ≤ (nth st.all i).1.files.length ∧ y = ⟨[(0, (.fp (Bx st))), (3, (.ptr 2 0)), (4, (.int .i64 ((i : Int)))), (8, (.fn 45 [] [(.ptr 2 0)])), (25, (.int .i64 ((st.all.length : Int)))), (26, (.int .i64 ((i : Int)))), (64, (Ct (((nth st.all i).1).files))), (65, (.int .i64 (((((nth st.all i).1).files).length : Int)))), (66, (.int .i64 ((j : Int))))], [(0, (.mm (A4 (Bf st.all i ++ Dx i (nth st.all i).1 j)) none 84 4)), (1, (.row [(.int .i64 st.kind), (.int .i64 ((st.all.length : Int))), (.map 0)] 80)), (2, (.row [(.ptr 1 0)] 32))], 4⟩ ∧ g = (nth st.all i).1.files.length - j) [0, 3, 4, 8, 25, 26, 64, 65, 66] 4 _ (by omega) ⟨0, (by omega), (Eq.trans (b := (⟨[(0, (.fp (Bx st))), (3, (.ptr 2 0)), (4, (.int .i64 ((i : Int)))), (8, (.fn 45 [] [(.ptr 2 0)])), (25, (.int .i64 ((st.all.length : Int)))), (26, (.int .i64 ((i : Int)))), (64, (Ct (((nth st.all i).1).files))), (65, (.int .i64 (((((nth st.all i).1).files).length : Int)))), (66, (.int .i64 0))], [(0, (.mm (A4 (Bf st.all i ++ Ea i (nth st.all i).1 j)) none 84 4)), (1, (.row [(.int .i64 st.kind), (.int .i64 ((st.all.length : Int))), (.map 0)] 80)), (2, (.row [(.ptr 1 0)] 32))], 4⟩ : St)) (by kernel_rfl) (by rw [show Dx i (nth st.all i).1 0 = Ea i (nth st.all i).1 (nth st.all i).1.provides.length from by simp [Dx], show (nth st.all i).1.provides.length = j from by omega] <;> kernel_rfl)), rfl⟩ ?_
   rintro g3 y3 ⟨j, f3_1, rfl, rfl⟩
   refine Aa [] [0, 3, 4, 8, 25, 26, 64, 65, 66, 67] ?_
   refine Ab ?_
   refine A2 (p := (j : Int) < ((((nth st.all i).1).files).length : Int)) (by kernel_rfl) (fun c3 => ?_) (fun c3 => ?_)
   ·refine Ag ?_
    refine Ab ?_
    refine A0 ?_
    refine Ad [] [0, 3, 4, 8, 12, 25, 26, 64, 65, 66] [] hk0 v0 (cc 0 (p := (0 ≤ (j : Int) ∧ j < (((nth st.all i).1).files).length)) (by first | omega | (simp; omega) | (simp; done) | (intros; simp_all; omega) | (intros; simp_all; done)) <| c0) ?_
    refine Ar ?_
    refine Bv 4 0 [] [0, 3, 4, 8, 25, 26, 64, 65, 66, 70, 71, 73] [] hk0 v0 c0 ?_
    refine P1 [2, 1, 0] (f := 45) (cap := [(.ptr 2 0)]) (al := [(.str (nth (((nth st.all i).1).files) j)), (.agg [(.int .i64 ((i : Int))), (.bool false), (.int .i64 0), (.str [])])]) (al' := [(.str (nth (((nth st.all i).1).files) j)), (.agg [(.int .i64 ((i : Int))), (.bool false), (.int .i64 0), (.str [])]), (.ptr 0 0)]) (r := (.tup [])) (r' := (.tup [])) (s' := [(0, (.fp (Bx st))), (3, (.ptr 2 0)), (4, (.int .i64 ((i : Int)))), (8, (.fn 45 [] [(.ptr 2 0)])), (25, (.int .i64 ((st.all.length : Int)))), (26, (.int .i64 ((i : Int)))), (64, (Ct (((nth st.all i).1).files))), (65, (.int .i64 (((((nth st.all i).1).files).length : Int)))), (66, (.int .i64 ((j : Int)))), (70, (.fn 45 [] [(.ptr 2 0)])), (71, (.str (nth (((nth st.all i).1).files) j))), (73, (.agg [(.int .i64 ((i : Int))), (.bool false), (.int .i64 0), (.str [])])), (74, (.tup []))]) (H := [(0, (.row [(.ptr 1 0)] 32)), (1, (.row [(.int .i64 st.kind), (.int .i64 ((st.all.length : Int))), (.map 2)] 80)), (2, (.mm (A4 (Bf st.all i ++ Dx i (nth st.all i).1 j)) none 84 4))]) (H' := [(0, (.row [(.ptr 1 0)] 32)), (1, (.row [(.int .i64 st.kind), (.int .i64 ((st.all.length : Int))), (.map 2)] 80)), (2, (.mm (A4 (Bf st.all i ++ Dx i (nth st.all i).1 j ++ [(nth (nth st.all i).1.files j, (⟨(i : Int), false, 0, []⟩ : OfferT))])) none 84 4))]) (h2 := [(0, (.mm (A4 (Bf st.all i ++ Dx i (nth st.all i).1 j ++ [(nth (nth st.all i).1.files j, (⟨(i : Int), false, 0, []⟩ : OfferT))])) none 84 4)), (1, (.row [(.int .i64 st.kind), (.int .i64 ((st.all.length : Int))), (.map 0)] 80)), (2, (.row [(.ptr 1 0)] 32))]) (by kernel_rfl) (by kernel_rfl) (by exact Sj) (by kernel_rfl) (by kernel_rfl) (by kernel_rfl) (by kernel_rfl) (by kernel_rfl) (Q9 st.kind (st.all.length : Int) (Bf st.all i ++ Dx i (nth st.all i).1 j) (nth (nth st.all i).1.files j) ⟨(i : Int), false, 0, []⟩ (Nat.le_trans (Oi _ _) (by first | (simp only [List.length_append]; have := N6 (i := i) (p := (nth st.all i).1) (j := j); have := N5 (i := i) (p := (nth st.all i).1) (j := j); omega) | omega))) (by kernel_rfl) (by kernel_rfl) (by kernel_rfl) ?_
    refine B2 ?_
    refine Ar ?_
    refine Aw 0 [] [0, 3, 4, 8, 25, 26, 64, 65, 66] [] hk0 v0 (cc 0 (p := (-9223372036854775808 ≤ (j : Int) + 1 ∧ (j : Int) + 1 ≤ 9223372036854775807)) (by first | omega | (simp; omega) | (simp; done) | (intros; simp_all; omega) | (intros; simp_all; done)) <| c0) ?_
    refine ⟨by kernel_rfl, _, ?_, j + 1, ?_, (Eq.trans (b := (⟨[(0, (.fp (Bx st))), (3, (.ptr 2 0)), (4, (.int .i64 ((i : Int)))), (8, (.fn 45 [] [(.ptr 2 0)])), (25, (.int .i64 ((st.all.length : Int)))), (26, (.int .i64 ((i : Int)))), (64, (Ct (((nth st.all i).1).files))), (65, (.int .i64 (((((nth st.all i).1).files).length : Int)))), (66, (.int .i64 ((j : Int) + 1)))], [(0, (.mm (A4 (Bf st.all i ++ Dx i (nth st.all i).1 j ++ [(nth (nth st.all i).1.files j, (⟨(i : Int), false, 0, []⟩ : OfferT))])) none 84 4)), (1, (.row [(.int .i64 st.kind), (.int .i64 ((st.all.length : Int))), (.map 0)] 80)), (2, (.row [(.ptr 1 0)] 32))], 4⟩ : St)) (by kernel_rfl) (by rw [Q50 (by omega), ← List.append_assoc] <;> kernel_rfl)), rfl⟩
    ·omega
    ·omega
   ·refine Bj ?_
    refine Ar ?_
    refine Aw 0 [] [0, 3, 25, 26] [] hk0 v0 (cc 0 (p := (-9223372036854775808 ≤ (i : Int) + 1 ∧ (i : Int) + 1 ≤ 9223372036854775807)) (by first | omega | (simp; omega) | (simp; done) | (intros; simp_all; omega) | (intros; simp_all; done)) <| c0) ?_
    refine ⟨by kernel_rfl, _, ?_, i + 1, ?_, (Eq.trans (b := (⟨[(0, (.fp (Bx st))), (3, (.ptr 2 0)), (25, (.int .i64 ((st.all.length : Int)))), (26, (.int .i64 ((i : Int) + 1)))], [(0, (.mm (A4 (Bf st.all i ++ Dx i (nth st.all i).1 j)) none 84 4)), (1, (.row [(.int .i64 st.kind), (.int .i64 ((st.all.length : Int))), (.map 0)] 80)), (2, (.row [(.ptr 1 0)] 32))], 3⟩ : St)) (by kernel_rfl) (by rw [Vs, show Gp i (nth st.all i).1 = Dx i (nth st.all i).1 j from by unfold Gp; rw [show (nth st.all i).1.files.length = j from by omega]] <;> kernel_rfl)), rfl⟩
    ·omega
    ·omega
 ·refine Bj ?_
  refine Ab ?_
  refine Ar ?_
  refine Ln 1 2 (y := ⟨[(0, (.fp (Bx st))), (3, (.ptr 2 0)), (25, (.int .i64 ((st.all.length : Int)))), (26, (.int .i64 ((i : Int)))), (27, (.bool (decide ((i : Int) < (st.all.length : Int)))))], [(1, (.row [(.int .i64 st.kind), (.int .i64 ((st.all.length : Int))), (.smap (.slice none 0 0) (fun kq => .row 4 ((A4 (Bf st.all i)) kq).length (fun ix => ((A4 (Bf st.all i)) kq).getD ix Bl)))] 80)), (2, (.row [(.ptr 1 0)] 32))], 3⟩) (by kernel_rfl) ?_
  refine Ep [] [2] ?_
  refine Af ?_
  refine RK wR [(.fp (.agg [(.int .i64 st.kind), (.int .i64 ((st.all.length : Int))), (.smap (.slice none 0 0) (fun kq => .row 4 ((A4 (Bf st.all i)) kq).length (fun ix => ((A4 (Bf st.all i)) kq).getD ix Bl)))]))] ?_
  rw [show i = st.all.length from by omega]
  exact Same.of_eq rfl
end Sv
end Go.Proofs.YtlfjokcbkopfeaaGreatDoor
end
section
namespace Go.Proofs.YtlfjokcbkopfeaaGreatDoor
open Go Go.RowKit
set_option linter.unusedSimpArgs false
set_option linter.unusedVariables false
namespace Sv
theorem Rz {φ : Phi} : ∀ {l : List Int} {vs : List Value}, VRl φ (l.map (AV.int .i64)) vs → vs = l.map (Value.int .i64)
  | [], vs, h => h.nil_inv
  | x :: l, vs, h => by
    obtain ⟨v, vs', rfl, h1, h2⟩ := h.cons_inv
    simp only [VR] at h1
    rw [Rz h2, h1]; rfl
theorem P7 {φ : Phi} : ∀ l : List Int, VRl φ (l.map (AV.int .i64)) (l.map (Value.int .i64))
  | [] => .nil
  | x :: l => .cons (by simp only [VR]) (P7 l)
theorem O1 (l : List Int) : (l.map (Value.int .i64)).flatMap (fun u => u.cells.toList) = l.map (Value.int .i64) := by
  induction l with
  | nil => rfl
  | cons x l ih => rw [List.map_cons, List.flatMap_cons, ih]; first | done | rfl
theorem Q0x (l : List Int) : ∀ u ∈ l.map (Value.int .i64), u.cells.size = 1 ∧ ∀ c ∈ u.cells.toList, c.oneCell' = true := by
  intro u hu
  obtain ⟨x, _, rfl⟩ := List.mem_map.1 hu
  exact ⟨rfl, fun c hc => by simp [Value.cells] at hc; subst hc; rfl⟩
theorem Rel.rebaseI {B : Bas} {φ : Phi} {h : AH} {w : World} (r : Rel B φ h w) : Rel (Fz φ h w) φ h w :=
  ⟨⟨rfl, rfl, rfl, Nat.le_refl _, fun _ _ => rfl⟩, r.fro, fun b o e => by have := r.obj b o e; cases o <;> exact this, r.sep, fun b o k e i => ⟨fun q => q.2 b o e i, (r.gf b o k e i).2⟩⟩
theorem S6 (zs : List Int) : (Lib.compact zs).length ≤ zs.length := by
  have : ∀ m, (Lib.compactUpTo zs.toArray m).length ≤ m := by
    intro m
    induction m with
    | zero => simp [Lib.compactUpTo]
    | succ m ih =>
      rw [Lib.compactUpTo_succ, List.length_append]
      split <;> simp <;> omega
  exact this _
theorem Q0v (l : List Int) (hl : l.length ≤ 4611686018427) :
    Gk Tryz.prog 118 [.own 0] [(0, .grow (l.map (AV.int .i64)) 3 1)] 1 (.own 0) [(0, .grow ((Lib.compact l).map (AV.int .i64)) 3 1)] := by
  intro B0 φ w vs r hv
  obtain ⟨v, rfl, hv1⟩ := hv.single_inv
  simp only [VR] at hv1
  obtain ⟨v0, us, q1, q2, q3, q4⟩ := r.obj 0 _ rfl
  rw [hv1.1] at q1; cases q1
  have hu := Rz q3
  subst hu
  rw [O1, List.length_map] at q2
  have hr := r.rebaseI
  rcases q2.2 with ⟨rfl, hn⟩ | ⟨g, cap, cur, rfl, hg1, hg2, hg3, hg4, hg5, hg6⟩
  · have hl0 : l = [] := List.length_eq_zero_iff.1 hn
    subst hl0
    refine (Tryz.slices_Compact_int_empty none 0 w).mono ?_
    rintro e w' ⟨he, rfl⟩
    exact ⟨_, he, φ, hr, by simp only [VR]; exact hv1, fun _ _ _ e => e, fun _ _ e => e, fun _ _ e => .inl e⟩
  · have hh : Go.Sort.Holds (Value.int .i64) w g 0 l.toArray := holds_of_blockI hg2 (by simpa using hg6)
    refine (Tryz.slices_Compact_int g 0 cap l w hh (by omega) hg3).mono ?_
    rintro e w' ⟨he, n, rfl⟩
    have hgr := grownBy_sortedI (w := w) (g := g) (n := n) (os := #[]) (Lib.compact l ++ List.replicate (l.length - (Lib.compact l).length) 0).toArray
    rw [Go.Sort.grow_empty] at hgr
    have hle := S6 l
    have hts : (Lib.compact l ++ List.replicate (l.length - (Lib.compact l).length) (0 : Int)).length = l.length := by simp; omega
    have ho := ownsRow_sortedI (n := n) (os := #[]) (base := 0) (ts := Lib.compact l ++ List.replicate (l.length - (Lib.compact l).length) 0) (ss := l) hts hg1 hg2 hg3 hg4 (by simpa using hg5)
    rw [Go.Sort.grow_empty] at ho
    refine ⟨_, he, ⟨φ.m, fun i => if i = 0 then some (.slice (some ⟨g, 0, none⟩) (Lib.compact l).length cap) else φ.s i, φ.f⟩, ?_, by simp only [VR]; exact ⟨rfl, _, _, _, rfl⟩, fun _ _ _ e => e, fun _ _ e => e, fun _ _ e => .inl e⟩
    have ht : Turn φ ⟨φ.m, fun i => if i = 0 then some (.slice (some ⟨g, 0, none⟩) (Lib.compact l).length cap) else φ.s i, φ.f⟩ 0 := ⟨fun _ => rfl, fun c hc => if_neg hc, fun _ _ e => e⟩
    refine Rel.grown (v' := .slice (some ⟨g, 0, none⟩) (Lib.compact l).length cap) (es' := (Lib.compact l).map (AV.int .i64)) hr (b := 0) rfl hv1.1 ht rfl rfl hgr (.inl rfl) (fun k hk => by cases hk; exact Nat.lt_of_lt_of_le (Ev hg2) hgr.size) ⟨_, (Lib.compact l).map (Value.int .i64), rfl, ?_, P7 _, Q0x _⟩
    rw [O1, List.length_map]
    refine ⟨by simp, .inr ⟨g, cap, Go.Sort.putCells (Value.int .i64) 0 (Lib.compact l ++ List.replicate (l.length - (Lib.compact l).length) 0).toArray cur, rfl, hg1, ?_, by omega, hg4, by simp [Go.Sort.putCells, hg5], ?_⟩⟩
    · have := heap_sortedI (w := w) (g := g) (n := n) (os := #[]) (Lib.compact l ++ List.replicate (l.length - (Lib.compact l).length) 0).toArray hg2
      rw [Go.Sort.grow_empty] at this; exact this
    · have := take_putCellsI cur (Lib.compact l ++ List.replicate (l.length - (Lib.compact l).length) 0) (by rw [hts, hg5]; omega)
      have := congrArg (List.take (Lib.compact l).length) this
      rw [List.take_take, Nat.min_eq_left (by rw [hts]; exact hle), List.map_append, List.take_append_of_le_length (by simp), List.take_of_length_le (l := (Lib.compact l).map (Value.int .i64)) (by simp)] at this
      rw [Nat.mul_one]; exact this
end Sv
end Go.Proofs.YtlfjokcbkopfeaaGreatDoor
end
section
namespace Go.Proofs.YtlfjokcbkopfeaaGreatDoor
open Go Go.RowKit
namespace Sv
attribute [local irreducible] SW SO Bg
theorem X1g : Am Tryz.prog 117 := Av Tryz.func117 (by kernel_rfl) rfl
theorem Q94 : Am Tryz.prog 57 := Av Tryz.func57 (by kernel_rfl) rfl
theorem Q0d : Am Tryz.prog 119 := Av Tryz.func119 (by kernel_rfl) rfl
theorem Zh : Am Tryz.prog 59 := Av Tryz.func59 (by kernel_rfl) rfl
theorem Ss : Am Tryz.prog 118 := Av Tryz.func118 (by kernel_rfl) rfl
theorem X0s : Am Tryz.prog 159 := Av Tryz.func159 (by kernel_rfl) rfl
theorem X1b : Am Tryz.prog 128 := Av Tryz.func128 (by kernel_rfl) rfl
theorem Zc : Am Tryz.prog 78 := Av Tryz.func78 (by kernel_rfl) rfl
theorem Q6t (ps : List (List UInt8 × OfferT)) (s : List UInt8) : Imp (.row 4 (A4 ps s).length (fun i => (A4 ps s).getD i Bl)) (Ai 4 H0 (B3 ps s)) := Imp.list (f := H0) (List.length_map _)
def P3 (m : Int → Int → List UInt8 → Int → List UInt8 → Bool × Int) : Prop := ∀ k op a o b, a.length ≤ 4194304 → b.length ≤ 4194304 → FnV Tryz.prog 159 [.int .i64 k, .int .i64 op, .str a, .int .i64 o, .str b] (.tup [.bool (m k op a o b).1, .int .i64 (m k op a o b).2])
def Ip (m : Int → Int → List UInt8 → Int → List UInt8 → Bool × Int) (k : Int) (d : DepT) (o : OfferT) : Bool := if d.op = 0 ∨ o.op = 0 then decide (d.op = 0) else (m k d.op d.evr o.op o.evr).1
def IdxOk (st : PoolT) : Prop := st.all.length ≤ 200 ∧ ∀ i, i < st.all.length → (nth st.all i).1.size ≤ 4194304
theorem IdxOk.len {st : PoolT} (h : IdxOk st) (s : List UInt8) : (B3 (Bf st.all st.all.length) s).length ≤ 2147483648 := by
 have h1 := Vt h.2 st.all.length (Nat.le_refl _)
 have h2 := Oi (Bf st.all st.all.length) s
 have h3 : (A4 (Bf st.all st.all.length) s).length = (B3 (Bf st.all st.all.length) s).length := List.length_map _
 have := h.1
 omega
theorem Es {α : Type} [Inhabited α] {l : List α} {j : Nat} (h : j < l.length) : nth l j = l[j] := by simp [nth, h]
theorem Q5z {st : PoolT} (h : IdxOk st) {q : List UInt8 × OfferT} (hq : q ∈ Bf st.all st.all.length) : q.2.evr.length ≤ 4194304 := by
 unfold Bf at hq
 obtain ⟨i, hi, hq⟩ := List.mem_flatMap.1 hq
 have hi : i < st.all.length := by simpa using hi
 have h1 := h.2 i hi
 have h2 := (nth st.all i).1.sizes
 unfold Gp Dx Ea at hq
 simp only [List.take_length, List.cons_append, List.mem_cons, List.mem_append, List.mem_map] at hq
 rcases hq with rfl | ⟨d, hd, rfl⟩ | ⟨x, hx, rfl⟩
 ·show (nth st.all i).1.evr.length ≤ _; omega
 ·obtain ⟨j, hj, rfl⟩ := List.getElem_of_mem hd
  have h3 := My (l := (nth st.all i).1.provides) (i := j) hj
  have h4 := I7 (nth (nth st.all i).1.provides j)
  have h5 : argsSize (nth st.all i).1.provides ≤ (nth st.all i).1.depSize := by unfold PkgT.depSize; omega
  have h6 : nth (nth st.all i).1.provides j = (nth st.all i).1.provides[j] := Es hj
  rw [h6] at h3 h4
  show (nth st.all i).1.provides[j].evr.length ≤ _
  omega
 ·exact Nat.zero_le _
theorem IdxOk.evr {st : PoolT} (h : IdxOk st) {s : List UInt8} {i : Nat} (hi : i < (B3 (Bf st.all st.all.length) s).length) : (nth (B3 (Bf st.all st.all.length) s) i).evr.length ≤ 4194304 := by
 have hm : nth (B3 (Bf st.all st.all.length) s) i ∈ B3 (Bf st.all st.all.length) s := by
  have : nth (B3 (Bf st.all st.all.length) s) i = (B3 (Bf st.all st.all.length) s)[i] := by simp [nth, hi]
  rw [this]; exact List.getElem_mem hi
 obtain ⟨q, hq, e⟩ := List.mem_map.1 hm
 rw [← e]; exact Q5z h (List.mem_filter.1 hq).1
def Gr (m : Int → Int → List UInt8 → Int → List UInt8 → Bool × Int) (st : PoolT) (d : DepT) (own : Bool) (o : OfferT) : Bool := (o.own || !own) && Ip m st.kind d o
def Dd (m : Int → Int → List UInt8 → Int → List UInt8 → Bool × Int) (st : PoolT) (d : DepT) (own : Bool) (i : Nat) : List Int := (((B3 (Bf st.all st.all.length) d.name).take i).filter (Gr m st d own)).map fun o => o.id
def H1 (m : Int → Int → List UInt8 → Int → List UInt8 → Bool × Int) (st : PoolT) (d : DepT) (own : Bool) : List Int := Lib.compact (Dd m st d own (B3 (Bf st.all st.all.length) d.name).length)
theorem Yh {m : Int → Int → List UInt8 → Int → List UInt8 → Bool × Int} {st : PoolT} {d : DepT} {own : Bool} {i : Nat} (h : i < (B3 (Bf st.all st.all.length) d.name).length) : Dd m st d own (i + 1) = Dd m st d own i ++ (if Gr m st d own (nth (B3 (Bf st.all st.all.length) d.name) i) = true then [(nth (B3 (Bf st.all st.all.length) d.name) i).id] else []) := by
 unfold Dd
 rw [List.take_add_one, List.getElem?_eq_getElem h, List.filter_append, List.map_append]
 congr 1
 have : nth (B3 (Bf st.all st.all.length) d.name) i = (B3 (Bf st.all st.all.length) d.name)[i] := by simp [nth, h]
 rw [this]
 cases hc : Gr m st d own (B3 (Bf st.all st.all.length) d.name)[i] <;> simp [hc]
theorem R3 {m : Int → Int → List UInt8 → Int → List UInt8 → Bool × Int} {st : PoolT} {d : DepT} {own : Bool} {i : Nat} : (Dd m st d own i).length ≤ (B3 (Bf st.all st.all.length) d.name).length := by
 unfold Dd
 rw [List.length_map]
 exact Nat.le_trans (List.length_filter_le _ _) (by simp; omega)
theorem Q8n {m : Int → Int → List UInt8 → Int → List UInt8 → Bool × Int} {st : PoolT} {d : DepT} {own : Bool} {i : Nat} (h : i < (B3 (Bf st.all st.all.length) d.name).length) (hc : Gr m st d own (nth (B3 (Bf st.all st.all.length) d.name) i) = true) : (Dd m st d own (i + 1)).map (AV.int .i64) = (Dd m st d own i).map (AV.int .i64) ++ [.int .i64 (nth (B3 (Bf st.all st.all.length) d.name) i).id] := by
 rw [Yh h, if_pos hc, List.map_append]; rfl
theorem Q8o {m : Int → Int → List UInt8 → Int → List UInt8 → Bool × Int} {st : PoolT} {d : DepT} {own : Bool} {i : Nat} (h : i < (B3 (Bf st.all st.all.length) d.name).length) (hc : Gr m st d own (nth (B3 (Bf st.all st.all.length) d.name) i) = false) : Dd m st d own (i + 1) = Dd m st d own i := by
 rw [Yh h, if_neg (by rw [hc]; simp), List.append_nil]
set_option maxHeartbeats 400000 in
set_option maxRecDepth 100000 in
theorem X3 (l : List Int) (a : AV) (p : Int → Bool) (hl : l.length ≤ 4611686018427387904) (ha : ∀ i, i < l.length → FunV Tryz.prog a [(.int .i64 (nth l i))] (.bool (p (nth l i)))) :
  FnV Tryz.prog 119 [(Ap l), (.clo a)] (.int .i64 (Cj p l)) := by
 refine A1 [.tmp 4] Tryz.func119 rfl Tryz.ntmps119 rfl rfl (fun B F hF => ?_)
 refine Aa [] [0, 1] ?_
 refine Ab ?_
 refine Aa [] [0, 1, 7, 8] ?_
 refine A0 ?_
 refine Bq (fun g y => ∃ (i : Nat), i ≤ l.length ∧ (∀ j, j < i → p (nth l j) = false) ∧ y = ⟨[(0, (Ap l)), (1, (.clo a)), (7, (.int .i64 ((l.length : Int)))), (8, (.int .i64 ((i : Int))))], [], 0⟩ ∧ g = l.length - i) [0, 1, 7, 8] 0 _ (by omega) ⟨0, (by omega), (by exact fun j hj => by omega), (by kernel_rfl), rfl⟩ ?_
 rintro g1 y1 ⟨i, f1_1, f1_2, rfl, rfl⟩
 refine Aa [] [0, 1, 7, 8, 9] ?_
 refine Ab ?_
 refine A2 (p := (i : Int) < (l.length : Int)) (by kernel_rfl) (fun c1 => ?_) (fun c1 => ?_)
 ·refine Ag ?_
  refine Ab ?_
  refine A0 ?_
  refine Aa [] [0, 1, 5, 7, 8] ?_
  refine Ab ?_
  refine Ar ?_
  refine Bv 5 0 [] [0, 1, 5, 7, 8, 11, 15] [] hk0 v0 (cc 3 (p := (0 ≤ (i : Int) ∧ i < l.length)) (by first | omega | (simp; omega) | (simp; done) | (intros; simp_all; omega) | (intros; simp_all; done)) <| c0) ?_
  refine G3 (s' := [(0, (Ap l)), (1, (.clo a)), (5, (.int .i64 ((i : Int)))), (7, (.int .i64 ((l.length : Int)))), (8, (.int .i64 ((i : Int)))), (11, (.clo a)), (15, (.int .i64 (nth l i))), (16, (.bool (p (nth l i))))]) (a := (.clo a)) (al := [(.int .i64 (nth l i))]) (r := (.bool (p (nth l i)))) (by kernel_rfl) (by kernel_rfl) (by kernel_rfl) (by kernel_rfl) (by kernel_rfl) ((ha i (by omega)).clo) (by kernel_rfl) ?_
  refine B2 ?_
  refine A3 (q := p (nth l i)) (by kernel_rfl) (fun c2 => ?_) (fun c2 => ?_)
  ·try simp only [Bool.and_eq_true, Bool.or_eq_true, Bool.and_eq_false_iff, Bool.or_eq_false_iff, Bool.not_eq_true', Bool.not_eq_false', decide_eq_true_eq, decide_eq_false_iff_not] at c2
   refine Aa [] [4] ?_
   refine Af ?_
   refine RK wR [(.int .i64 ((i : Int)))] ?_
   exact Same.of_eq (by rw [Js (by omega) f1_2 (by simp_all)]; rfl)
  ·try simp only [Bool.and_eq_true, Bool.or_eq_true, Bool.and_eq_false_iff, Bool.or_eq_false_iff, Bool.not_eq_true', Bool.not_eq_false', decide_eq_true_eq, decide_eq_false_iff_not] at c2
   refine Ag ?_
   refine Ar ?_
   refine Aw 0 [] [0, 1, 7, 8] [] hk0 v0 (cc 0 (p := (-9223372036854775808 ≤ (i : Int) + 1 ∧ (i : Int) + 1 ≤ 9223372036854775807)) (by first | omega | (simp; omega) | (simp; done) | (intros; simp_all; omega) | (intros; simp_all; done)) <| c0) ?_
   refine ⟨by kernel_rfl, _, ?_, i + 1, ?_, ?_, (by kernel_rfl), rfl⟩
   ·omega
   ·omega
   ·intro j hj
    by_cases h : j = i
    ·subst h; simp_all
    ·exact f1_2 j (by omega)
 ·refine Bj ?_
  refine Aa [] [4] ?_
  refine Af ?_
  refine RK wR [(.int .i64 (-1))] ?_
  exact Same.of_eq (by rw [Jr (fun j hj => f1_2 j (by omega))]; rfl)
set_option maxHeartbeats 400000 in
set_option maxRecDepth 100000 in
theorem X4 (l : List Int) (a : AV) (p : Int → Bool) (hl : l.length ≤ 4611686018427387904) (ha : ∀ i, i < l.length → FunV Tryz.prog a [(.int .i64 (nth l i))] (.bool (p (nth l i)))) :
  FnV Tryz.prog 59 [(Ap l), (.clo a)] (.bool (l.any p)) := by
 refine A1 [.tmp 4] Tryz.func59 rfl Tryz.ntmps59 rfl rfl (fun B F hF => ?_)
 refine Aa [] [0, 1] ?_
 refine Ad [] [4] [] (hk 2 Q0d (X3 l a p hl ha) <| hk0) v0 c0 ?_
 refine Af ?_
 refine RK wR [(.bool (decide (0 ≤ (Cj p l))))] ?_
 exact Same.of_eq (by simp only [Ah]; rw [K2])
set_option maxHeartbeats 400000 in
set_option maxRecDepth 100000 in
theorem Q87 (m : Int → Int → List UInt8 → Int → List UInt8 → Bool × Int) (hM : P3 m) (st : PoolT) (d : DepT) (o : OfferT) (hd : d.size ≤ 4194304) (ho : o.evr.length ≤ 4194304) :
  FnV Tryz.prog 117 [(.fp (Cw st)), (.agg [(.int .i64 d.kind), (.str d.name), (.int .i64 d.op), (.str d.evr), (.row 5 d.args.length (depAt d.args))]), (.agg [(.int .i64 o.id), (.bool o.own), (.int .i64 o.op), (.str o.evr)])] (.bool (Ip m st.kind d o)) := by
 have hda := I7 d
 refine A1 [.tmp 6] Tryz.func117 rfl Tryz.ntmps117 rfl rfl (fun B F hF => ?_)
 refine Ad [] [0, 4, 5] [(1, 4), (2, 5)] hk0 v0 c0 ?_
 refine Ab ?_
 obtain ⟨b1, hb1⟩ : ∃ b, b = (decide (d.op = 0)) := ⟨_, rfl⟩
 refine Ad (CS := [(5, ((!b1) = true → (!b1) = true)), (6, ((!b1) = true → (!b1) = true)), (7, (b1 = false → (!b1) = true))]) [13, 14, 15] [0, 4, 5, 16] [] hk0 (vk 4 12 (a := .bool (decide (d.op = 0))) (b := .bool b1) (Imp.of_eq (by rw [hb1])) <| v0) (by refine cc _ ?_ <| cc _ ?_ <| cc _ ?_ c0 <;> first | omega | (simp; omega) | (simp; done) | (intros; simp_all; omega) | (intros; simp_all; done)) ?_
 refine A3 (q := b1 || (decide (o.op = 0))) (by kernel_rfl) (fun c1 => ?_) (fun c1 => ?_)
 ·subst hb1
  try simp only [Bool.and_eq_true, Bool.or_eq_true, Bool.and_eq_false_iff, Bool.or_eq_false_iff, Bool.not_eq_true', Bool.not_eq_false', decide_eq_true_eq, decide_eq_false_iff_not] at c1
  refine Aa [] [6] ?_
  refine Af ?_
  refine RK wR [(.bool (decide (d.op = 0)))] ?_
  exact Same.of_eq (by simp only [Ah]; unfold Ip; rw [if_pos (by simpa using c1)])
 ·subst hb1
  try simp only [Bool.and_eq_true, Bool.or_eq_true, Bool.and_eq_false_iff, Bool.or_eq_false_iff, Bool.not_eq_true', Bool.not_eq_false', decide_eq_true_eq, decide_eq_false_iff_not] at c1
  refine Ag ?_
  refine Cn [] [7] [] (hk 12 X0s (hM st.kind d.op d.evr o.op o.evr (by omega) ho) <| hk0) v0 c0 ?_
  refine Aa [] [6] ?_
  refine Af ?_
  refine RK wR [(.bool ((m st.kind d.op d.evr o.op o.evr).1))] ?_
  exact Same.of_eq (by simp only [Ah]; unfold Ip; rw [if_neg (by simpa using c1)])
set_option maxHeartbeats 1000000 in
set_option maxRecDepth 100000 in
theorem Q7f (m : Int → Int → List UInt8 → Int → List UInt8 → Bool × Int) (hM : P3 m) (st : PoolT) (hi : IdxOk st) (d : DepT) (own : Bool) (hd : d.size ≤ 4194304) :
  FnV Tryz.prog 57 [(.fp (Cw st)), (.agg [(.int .i64 d.kind), (.str d.name), (.int .i64 d.op), (.str d.evr), (.row 5 d.args.length (depAt d.args))]), (.bool own)] (Ap (H1 m st d own)) := by
 have hlg : (A4 (Bf st.all st.all.length) d.name).length = (B3 (Bf st.all st.all.length) d.name).length := List.length_map _
 have hll := hi.len d.name
 refine A1 [.tmp 6] Tryz.func57 rfl Tryz.ntmps57 rfl rfl (fun B F hF => ?_)
 refine Ad [] [0, 2, 4] [(1, 4)] hk0 v0 c0 ?_
 refine Aa [] [0, 2, 4, 7] ?_
 refine Ab ?_
 refine Ab ?_
 refine I3 (by kernel_rfl) (fun F1 hF1 => ?_)
 refine Cs (fuel := 2) [] [0, 1, 2, 3, 4, 5, 8] [0, 2, 4, 7, 13, 15, 18] Az ?_
 refine F4 (fuel := 1) 6 (by kernel_rfl) ?_
 refine C4 (fuel := 1) 6 rfl ?_
 refine X3x (s := d.name) (z := .slice none 0 0) (G := fun s => .row 4 (A4 (Bf st.all st.all.length) s).length (fun i => (A4 (Bf st.all st.all.length) s).getD i Bl)) (s' := [(0, (.fp (Cw st))), (2, (.bool own)), (4, (.fp (.agg [(.int .i64 d.kind), (.str d.name), (.int .i64 d.op), (.str d.evr), (.row 5 d.args.length (depAt d.args))]))), (7, .nils), (13, (.smap (.slice none 0 0) (fun s => .row 4 (A4 (Bf st.all st.all.length) s).length (fun i => (A4 (Bf st.all st.all.length) s).getD i Bl)))), (15, (.str d.name)), (18, (.int .i64 0)), (16, (.row 4 (A4 (Bf st.all st.all.length) d.name).length (fun i => (A4 (Bf st.all st.all.length) d.name).getD i Bl)))]) (by kernel_rfl) (by kernel_rfl) (by kernel_rfl) Tryz.underlying78 Tryz.underlying9 (fun _ => by kernel_rfl) (by kernel_rfl) ?_
 refine B2 ⟨rfl, ?_⟩
 refine Cs (fuel := 0) [] [7] [0, 2, 4, 7, 16, 17, 18] Az ?_
 refine Ax [0, 2, 4, 7, 16, 17, 18] ?_
 refine Gj (by kernel_rfl) ?_
 refine A0 ?_
 refine Q2b 16 (Ai 4 H0 (B3 (Bf st.all st.all.length) d.name)) (by kernel_rfl) (Q6t (Bf st.all st.all.length) d.name) ?_
 refine Pw 3 1 7 (y := ⟨[(0, (.fp (Cw st))), (2, (.bool own)), (4, (.fp (.agg [(.int .i64 d.kind), (.str d.name), (.int .i64 d.op), (.str d.evr), (.row 5 d.args.length (depAt d.args))]))), (7, (.own 1)), (16, (Ai 4 H0 (B3 (Bf st.all st.all.length) d.name))), (17, (.int .i64 (((A4 (Bf st.all st.all.length) d.name).length : Int)))), (18, (.int .i64 0))], [(1, (.grow [] 3 1))], 2⟩) (by kernel_rfl) (by kernel_rfl) ?_
 refine Bq (fun g y => ∃ (i : Nat), i ≤ (B3 (Bf st.all st.all.length) d.name).length ∧ y = ⟨[(0, (.fp (Cw st))), (2, (.bool own)), (4, (.fp (.agg [(.int .i64 d.kind), (.str d.name), (.int .i64 d.op), (.str d.evr), (.row 5 d.args.length (depAt d.args))]))), (7, (.own 1)), (16, (Ai 4 H0 (B3 (Bf st.all st.all.length) d.name))), (17, (.int .i64 (((A4 (Bf st.all st.all.length) d.name).length : Int)))), (18, (.int .i64 ((i : Int))))], [(1, (.grow ((Dd m st d own i).map (AV.int .i64)) 3 1))], 2⟩ ∧ g = (B3 (Bf st.all st.all.length) d.name).length - i) [0, 2, 4, 7, 16, 17, 18] 2 _ (by omega) ⟨0, (by omega), (by kernel_rfl), rfl⟩ ?_
 rintro g1 y1 ⟨i, f1_1, rfl, rfl⟩
 have hhl := R3 (m := m) (st := st) (d := d) (own := own) (i := i)
 have hhm : ((Dd m st d own i).map (AV.int .i64)).length = (Dd m st d own i).length := List.length_map _
 refine Aa [] [0, 2, 4, 7, 16, 17, 18, 19] ?_
 refine Ab ?_
 refine A2 (p := (i : Int) < ((A4 (Bf st.all st.all.length) d.name).length : Int)) (by kernel_rfl) (fun c1 => ?_) (fun c1 => ?_)
 ·refine Ag ?_
  refine Ab ?_
  refine A0 ?_
  refine Ad [] [0, 2, 4, 7, 9, 16, 17, 18] [] hk0 v0 (cc 0 (p := (0 ≤ (i : Int) ∧ i < (B3 (Bf st.all st.all.length) d.name).length)) (by first | omega | (simp; omega) | (simp; done) | (intros; simp_all; omega) | (intros; simp_all; done)) <| c0) ?_
  obtain ⟨b1, hb1⟩ : ∃ b, b = ((nth (B3 (Bf st.all st.all.length) d.name) i).own) := ⟨_, rfl⟩
  refine Ad (CS := [(4, ((!b1) = true → (!b1) = true)), (5, (b1 = false → (!b1) = true)), (10, (b1 || (!own)) = true → (b1 || (!own)) = true ∧ (b1 || (!own)) = true ∧ (b1 || (!own)) = true), (11, ((b1 || (!own)) = true → (b1 || (!own)) = true))]) [25, 26, 29, 30, 31] [0, 2, 4, 7, 9, 16, 17, 18, 33] [(0, 9)] (hkg 10 (b1 || (!own)) X1g (fun cg => Q87 m hM st d (nth (B3 (Bf st.all st.all.length) d.name) i) hd (hi.evr (by omega))) <| hk0) (vk 3 24 (a := .bool ((nth (B3 (Bf st.all st.all.length) d.name) i).own)) (b := .bool b1) (Imp.of_eq (by rw [hb1])) <| v0) (by refine cc _ ?_ <| cc _ ?_ <| cc _ ?_ <| cc _ ?_ c0 <;> first | omega | (simp; omega) | (simp; done) | (intros; simp_all; omega) | (intros; simp_all; done)) ?_
  refine A3 (q := (b1 || (!own)) && (Ip m st.kind d (nth (B3 (Bf st.all st.all.length) d.name) i))) (by kernel_rfl) (fun c2 => ?_) (fun c2 => ?_)
  ·subst hb1
   try simp only [Bool.and_eq_true, Bool.or_eq_true, Bool.and_eq_false_iff, Bool.or_eq_false_iff, Bool.not_eq_true', Bool.not_eq_false', decide_eq_true_eq, decide_eq_false_iff_not] at c2
   refine Ar ?_
   refine Aw 0 [] [0, 2, 4, 7, 16, 17, 18] [] hk0 v0 (cc 4 (p := ((((Dd m st d own i).map (AV.int .i64)).length + 1) * 8 ≤ 140737488355328)) (by first | omega | (simp; omega) | (simp; done) | (intros; simp_all; omega) | (intros; simp_all; done)) <| c0) ?_
   refine Ar ?_
   refine Aw 0 [] [0, 2, 4, 7, 16, 17, 18] [] hk0 v0 (cc 0 (p := (-9223372036854775808 ≤ (i : Int) + 1 ∧ (i : Int) + 1 ≤ 9223372036854775807)) (by first | omega | (simp; omega) | (simp; done) | (intros; simp_all; omega) | (intros; simp_all; done)) <| c0) ?_
   refine ⟨by kernel_rfl, _, ?_, i + 1, ?_, (Eq.trans (b := (⟨[(0, (.fp (Cw st))), (2, (.bool own)), (4, (.fp (.agg [(.int .i64 d.kind), (.str d.name), (.int .i64 d.op), (.str d.evr), (.row 5 d.args.length (depAt d.args))]))), (7, (.own 1)), (16, (Ai 4 H0 (B3 (Bf st.all st.all.length) d.name))), (17, (.int .i64 (((A4 (Bf st.all st.all.length) d.name).length : Int)))), (18, (.int .i64 ((i : Int) + 1)))], [(1, (.grow (((Dd m st d own i).map (AV.int .i64)) ++ ([(.int .i64 ((nth (B3 (Bf st.all st.all.length) d.name) i).id))] : List AV)) 3 1))], 2⟩ : St)) (by kernel_rfl) (by rw [Q8n (by omega) (by unfold Gr; simpa using c2)] <;> kernel_rfl)), rfl⟩
   ·omega
   ·omega
  ·subst hb1
   try simp only [Bool.and_eq_true, Bool.or_eq_true, Bool.and_eq_false_iff, Bool.or_eq_false_iff, Bool.not_eq_true', Bool.not_eq_false', decide_eq_true_eq, decide_eq_false_iff_not] at c2
   refine Ag ?_
   refine Ar ?_
   refine Aw 0 [] [0, 2, 4, 7, 16, 17, 18] [] hk0 v0 (cc 0 (p := (-9223372036854775808 ≤ (i : Int) + 1 ∧ (i : Int) + 1 ≤ 9223372036854775807)) (by first | omega | (simp; omega) | (simp; done) | (intros; simp_all; omega) | (intros; simp_all; done)) <| c0) ?_
   refine ⟨by kernel_rfl, _, ?_, i + 1, ?_, (Eq.trans (b := (⟨[(0, (.fp (Cw st))), (2, (.bool own)), (4, (.fp (.agg [(.int .i64 d.kind), (.str d.name), (.int .i64 d.op), (.str d.evr), (.row 5 d.args.length (depAt d.args))]))), (7, (.own 1)), (16, (Ai 4 H0 (B3 (Bf st.all st.all.length) d.name))), (17, (.int .i64 (((A4 (Bf st.all st.all.length) d.name).length : Int)))), (18, (.int .i64 ((i : Int) + 1)))], [(1, (.grow ((Dd m st d own i).map (AV.int .i64)) 3 1))], 2⟩ : St)) (by kernel_rfl) (by rw [Q8o (by omega) (by unfold Gr; simp only [Bool.and_eq_false_iff, Bool.or_eq_false_iff, Bool.not_eq_false']; simpa only [Bool.not_eq_false', Bool.not_eq_eq_eq_not, Bool.not_false] using c2)] <;> kernel_rfl)), rfl⟩
   ·omega
   ·omega
 ·refine Bj ?_
  refine Ab ?_
  refine Ar ?_
  refine Bv 1 0 [] [40] [] hk0 v0 c0 ?_
  refine Lo [1] (al := [(.own 1)]) (al' := [(.own 0)]) (r := (.own 0)) (r' := (.own 1)) (s' := [(40, Bl), (41, (.own 1))]) (H := [(0, (.grow ((Dd m st d own i).map (AV.int .i64)) 3 1))]) (H' := [(0, (.grow ((Lib.compact (Dd m st d own i)).map (AV.int .i64)) 3 1))]) (h2 := [(1, (.grow ((Lib.compact (Dd m st d own i)).map (AV.int .i64)) 3 1))]) (by kernel_rfl) (by exact Ss) (by kernel_rfl) (by kernel_rfl) (by kernel_rfl) (by kernel_rfl) (by kernel_rfl) (Q0v (Dd m st d own i) (by have := R3 (m := m) (st := st) (d := d) (own := own) (i := i); omega)) (by kernel_rfl) (by kernel_rfl) (by kernel_rfl) ?_
  refine Aw 2 [] [6] [] hk0 v0 c0 ?_
  refine Af ?_
  refine RK wR [(.row 1 ((Lib.compact (Dd m st d own i)).map (AV.int .i64)).length (fun ix => ((Lib.compact (Dd m st d own i)).map (AV.int .i64)).getD ix Bl))] ?_
  rw [show i = (B3 (Bf st.all st.all.length) d.name).length from by omega]
  exact Same.list (f := AV.int .i64) (List.length_map _)
end Sv
end Go.Proofs.YtlfjokcbkopfeaaGreatDoor
end
section
namespace Go.Proofs.YtlfjokcbkopfeaaGreatDoor
open Go Go.RowKit
namespace Sv
attribute [local irreducible] SW SO Bg
instance : Inhabited AV := ⟨.nilf⟩
def L6 (l : List Int) (v : Int) : Int := Cj (fun x => decide (v = x)) l
set_option maxHeartbeats 400000 in
set_option maxRecDepth 100000 in
theorem Q8h (l : List Int) (v : Int) (hl : l.length ≤ 4611686018427387904) :
  FnV Tryz.prog 128 [(Ap l), (.int .i64 v)] (.int .i64 (L6 l v)) := by
 refine A1 [.tmp 4] Tryz.func128 rfl Tryz.ntmps128 rfl rfl (fun B F hF => ?_)
 refine Aa [] [0, 1] ?_
 refine Ab ?_
 refine Aa [] [0, 1, 7, 8] ?_
 refine A0 ?_
 refine Bq (fun g y => ∃ (i : Nat), i ≤ l.length ∧ (∀ j, j < i → ¬ v = nth l j) ∧ y = ⟨[(0, (Ap l)), (1, (.int .i64 v)), (7, (.int .i64 ((l.length : Int)))), (8, (.int .i64 ((i : Int))))], [], 0⟩ ∧ g = l.length - i) [0, 1, 7, 8] 0 _ (by omega) ⟨0, (by omega), (by exact fun j hj => by omega), (by kernel_rfl), rfl⟩ ?_
 rintro g1 y1 ⟨i, f1_1, f1_2, rfl, rfl⟩
 refine Aa [] [0, 1, 7, 8, 9] ?_
 refine Ab ?_
 refine A2 (p := (i : Int) < (l.length : Int)) (by kernel_rfl) (fun c1 => ?_) (fun c1 => ?_)
 ·refine Ag ?_
  refine Ab ?_
  refine A0 ?_
  refine Aa [] [0, 1, 5, 7, 8] ?_
  refine Ad [] [0, 1, 5, 7, 8, 16] [] hk0 v0 (cc 3 (p := (0 ≤ (i : Int) ∧ i < l.length)) (by first | omega | (simp; omega) | (simp; done) | (intros; simp_all; omega) | (intros; simp_all; done)) <| c0) ?_
  refine A2 (p := v = (nth l i)) (by kernel_rfl) (fun c2 => ?_) (fun c2 => ?_)
  ·refine Aa [] [4] ?_
   refine Af ?_
   refine RK wR [(.int .i64 ((i : Int)))] ?_
   exact Same.of_eq (by unfold L6; rw [Js (p := fun x => decide (v = x)) (i := i) (by omega) (fun j hj => by simpa using f1_2 j hj) (by simpa using c2)]; rfl)
  ·refine Ag ?_
   refine Ar ?_
   refine Aw 0 [] [0, 1, 7, 8] [] hk0 v0 (cc 0 (p := (-9223372036854775808 ≤ (i : Int) + 1 ∧ (i : Int) + 1 ≤ 9223372036854775807)) (by first | omega | (simp; omega) | (simp; done) | (intros; simp_all; omega) | (intros; simp_all; done)) <| c0) ?_
   refine ⟨by kernel_rfl, _, ?_, i + 1, ?_, ?_, (by kernel_rfl), rfl⟩
   ·omega
   ·omega
   ·intro j hj
    by_cases h : j = i
    ·subst h; assumption
    ·exact f1_2 j (by omega)
 ·refine Bj ?_
  refine Aa [] [4] ?_
  refine Af ?_
  refine RK wR [(.int .i64 (-1))] ?_
  exact Same.of_eq (by unfold L6; rw [Jr (p := fun x => decide (v = x)) (fun j hj => by simpa using f1_2 j (by omega))]; rfl)
set_option maxHeartbeats 400000 in
set_option maxRecDepth 100000 in
theorem Q0t (l : List Int) (v : Int) (hl : l.length ≤ 4611686018427387904) :
  FnV Tryz.prog 78 [(Ap l), (.int .i64 v)] (.bool (l.any fun x => decide (v = x))) := by
 refine A1 [.tmp 4] Tryz.func78 rfl Tryz.ntmps78 rfl rfl (fun B F hF => ?_)
 refine Aa [] [0, 1] ?_
 refine Ad [] [4] [] (hk 2 X1b (Q8h l v hl) <| hk0) v0 c0 ?_
 refine Af ?_
 refine RK wR [(.bool (decide (0 ≤ (L6 l v))))] ?_
 exact Same.of_eq (by simp only [Ah]; unfold L6; rw [K2])
end Sv
end Go.Proofs.YtlfjokcbkopfeaaGreatDoor
end
section
namespace Go.Proofs.YtlfjokcbkopfeaaGreatDoor
open Go Go.RowKit
namespace Sv
attribute [local irreducible] SW SO Bg
end Sv
end Go.Proofs.YtlfjokcbkopfeaaGreatDoor
end
section
namespace Go.Proofs.YtlfjokcbkopfeaaGreatDoor
open Go Go.RowKit
namespace Sv
attribute [local irreducible] SW SO Bg
theorem Q7h {m : Int → Int → List UInt8 → Int → List UInt8 → Bool × Int} {st : PoolT} (hi : IdxOk st) {d : DepT} {own : Bool} : (H1 m st d own).length ≤ 4611686018427387904 := by
 have h1 := S6 (Dd m st d own (B3 (Bf st.all st.all.length) d.name).length)
 have h2 := R3 (m := m) (st := st) (d := d) (own := own) (i := (B3 (Bf st.all st.all.length) d.name).length)
 have h3 := hi.len d.name
 unfold H1; omega
end Sv
end Go.Proofs.YtlfjokcbkopfeaaGreatDoor
end
section
namespace Go.Proofs.YtlfjokcbkopfeaaGreatDoor
open Go Go.RowKit
namespace Sv
attribute [local irreducible] SW SO Bg
end Sv
end Go.Proofs.YtlfjokcbkopfeaaGreatDoor
end
section
namespace Go.Proofs.YtlfjokcbkopfeaaGreatDoor
open Go Go.RowKit
namespace Sv
attribute [local irreducible] SW SO Bg
theorem Q96 : Am Tryz.prog 53 := Av Tryz.func53 (by kernel_rfl) rfl
def G9 (d : DepT) (q : Bool) : Int := if C3 d = 0 then (if q = true then 0 else 70) else C3 d
set_option maxHeartbeats 400000 in
set_option maxRecDepth 100000 in
theorem Q5j (st : PoolT) (d : DepT) (a : AV) (q : Bool) (hd : d.size ≤ 4194304) (ha : FunV Tryz.prog a [.int .i64 d.kind] (.bool q)) :
  FnV Tryz.prog 53 [(.fp (Cw st)), (.agg [(.int .i64 d.kind), (.str d.name), (.int .i64 d.op), (.str d.evr), (.row 5 d.args.length (depAt d.args))]), (.clo a)] (.int .i64 (G9 d q)) := by
 refine A1 [.tmp 6] Tryz.func53 rfl Tryz.ntmps53 rfl rfl (fun B F hF => ?_)
 refine Ad [] [0, 2, 4] [(1, 4)] hk0 v0 c0 ?_
 refine Ab ?_
 refine Aa [] [2, 4, 9] ?_
 refine D6 (by kernel_rfl) ?_
 refine Ag ?_
 refine Ab ?_
 refine Ad [] [2, 4, 7] [] (hk 1 Sn (Q2u d hd) <| hk0) v0 c0 ?_
 refine Aa [] [2, 4, 7, 13] ?_
 refine Cm (p := (C3 d) = 0) (by kernel_rfl) (fun c1 => ?_) (fun c1 => ?_)
 ·refine Aa [] [6] ?_
  refine Af ?_
  refine RK wR [(.int .i64 (C3 d))] ?_
  exact Same.of_eq (by simp only [Ah]; unfold G9; rw [if_neg (by assumption)])
 ·refine Ag ?_
  refine Ab ?_
  refine Ab ?_
  refine Ar ?_
  refine Bv 3 0 [] [15, 17] [] hk0 v0 c0 ?_
  refine G3 (s' := [(15, (.clo a)), (17, (.int .i64 d.kind)), (18, (.bool q))]) (a := (.clo a)) (al := [(.int .i64 d.kind)]) (r := (.bool q)) (by kernel_rfl) (by kernel_rfl) (by kernel_rfl) (by kernel_rfl) (by kernel_rfl) ha.clo (by kernel_rfl) ?_
  refine Aw 4 [] [19] [] hk0 v0 c0 ?_
  refine A3 (q := !q) (by kernel_rfl) (fun c2 => ?_) (fun c2 => ?_)
  ·try simp only [Bool.and_eq_true, Bool.or_eq_true, Bool.and_eq_false_iff, Bool.or_eq_false_iff, Bool.not_eq_true', Bool.not_eq_false', decide_eq_true_eq, decide_eq_false_iff_not] at c2
   refine Aa [] [6] ?_
   refine Af ?_
   refine RK wR [(.int .i64 70)] ?_
   exact Same.of_eq (by simp only [Ah]; unfold G9; rw [if_pos (by omega), if_neg (by simp_all)])
  ·try simp only [Bool.and_eq_true, Bool.or_eq_true, Bool.and_eq_false_iff, Bool.or_eq_false_iff, Bool.not_eq_true', Bool.not_eq_false', decide_eq_true_eq, decide_eq_false_iff_not] at c2
   refine Ag ?_
   refine Aa [] [6] ?_
   refine Af ?_
   refine RK wR [(.int .i64 0)] ?_
   exact Same.of_eq (by simp only [Ah]; unfold G9; rw [if_pos (by omega), if_pos (by simp_all)])
end Sv
end Go.Proofs.YtlfjokcbkopfeaaGreatDoor
end
section
namespace Go.Proofs.YtlfjokcbkopfeaaGreatDoor
open Go Go.RowKit
namespace Sv
attribute [local irreducible] SW SO Bg
theorem X05 : Am Tryz.prog 14 := Av Tryz.func14 (by kernel_rfl) rfl
theorem Q95 : Am Tryz.prog 56 := Av Tryz.func56 (by kernel_rfl) rfl
def Ed (m : Int → Int → List UInt8 → Int → List UInt8 → Bool × Int) (st : PoolT) (d : DepT) : List Int × Int := if G9 d (decide (d.kind = 1)) = 0 then (H1 m st d true, 0) else ([], G9 d (decide (d.kind = 1)))
set_option maxHeartbeats 400000 in
set_option maxRecDepth 100000 in
theorem Q62 (k : Int) :
  FnV Tryz.prog 56 [(.int .i64 k)] (.bool (decide (k = 1))) := by
 refine A1 [.tmp 2] Tryz.func56 rfl Tryz.ntmps56 rfl rfl (fun B F hF => ?_)
 refine Aa [] [0] ?_
 refine Aa [] [2] ?_
 refine Af ?_
 refine RK wR [(.bool (decide (k = 1)))] ?_
 exact Same.of_eq (by first | rfl | (simp only [Ah]; simp_all))
set_option maxHeartbeats 400000 in
set_option maxRecDepth 100000 in
theorem X4p (m : Int → Int → List UInt8 → Int → List UInt8 → Bool × Int) (hM : P3 m) (st : PoolT) (hi : IdxOk st) (d : DepT) (hd : d.size ≤ 4194304) :
  FnV Tryz.prog 14 [(.fp (Cw st)), (.agg [(.int .i64 d.kind), (.str d.name), (.int .i64 d.op), (.str d.evr), (.row 5 d.args.length (depAt d.args))])] (.tup [Ap (Ed m st d).1, .int .i64 (Ed m st d).2]) := by
 refine A1 [.tmp 4, .tmp 5] Tryz.func14 rfl Tryz.ntmps14 rfl rfl (fun B F hF => ?_)
 refine Ad [] [0, 3] [(1, 3)] hk0 v0 c0 ?_
 refine Ab ?_
 refine Ad [] [0, 3, 6] [] (hk 2 (al := [(.fp (Cw st)), (.agg [(.int .i64 d.kind), (.str d.name), (.int .i64 d.op), (.str d.evr), (.row 5 d.args.length (depAt d.args))]), (.fn 56 [] [])]) Q96 ((Q5j st d (.fn 56 [] []) (decide (d.kind = 1)) hd (FunV.of (by exact Q95) (Q62 d.kind))).of_args (ImpL.cons Imp.refl (ImpL.cons Imp.refl (ImpL.cons (Imp.clo rfl) ImpL.nil)))) <| hk0) v0 c0 ?_
 refine Aa [] [0, 3, 6, 11] ?_
 refine Cm (p := (G9 d (decide (d.kind = 1))) = 0) (by kernel_rfl) (fun c1 => ?_) (fun c1 => ?_)
 ·refine Aa [] [4, 5] ?_
  refine Af ?_
  refine RK wR [.nils, (.int .i64 (G9 d (decide (d.kind = 1))))] ?_
  simp only [Ah]
  rw [show Ed m st d = ([], G9 d (decide (d.kind = 1))) from by unfold Ed; rw [if_neg (by assumption)]]
  exact (Imp.tups (ImpL.cons Imp.nil (ImpL.cons Imp.refl ImpL.nil))).same
 ·refine Ag ?_
  refine Ad [] [4, 5] [] (hk 2 Q94 (Q7f m hM st hi d true hd) <| hk0) v0 c0 ?_
  refine Af ?_
  refine RK wR [(Ap (H1 m st d true)), (.int .i64 0)] ?_
  exact Same.of_eq (by simp only [Ah]; unfold Ed; rw [if_pos (by omega)])
end Sv
end Go.Proofs.YtlfjokcbkopfeaaGreatDoor
end
section
namespace Go.Proofs.YtlfjokcbkopfeaaGreatDoor
open Go Go.RowKit
namespace Sv
attribute [local irreducible] SW SO Bg
theorem Sp : Am Tryz.prog 194 := Av Tryz.func194 (by kernel_rfl) rfl
theorem Pc : Am Tryz.prog 130 := Av Tryz.func130 (by kernel_rfl) rfl
theorem Zu : Am Tryz.prog 216 := Av Tryz.func216 (by kernel_rfl) rfl
theorem Sr : Am Tryz.prog 136 := Av Tryz.func136 (by kernel_rfl) rfl
theorem Z0 : Am Tryz.prog 195 := Av Tryz.func195 (by kernel_rfl) rfl
theorem Sq : Am Tryz.prog 163 := Av Tryz.func163 (by kernel_rfl) rfl
theorem Z7 : Am Tryz.prog 164 := Av Tryz.func164 (by kernel_rfl) rfl
def Cg (a b : Int) : Int := if a < b then -1 else if b < a then 1 else 0
def orI (a b : Int) : Int := if a = 0 then b else a
def Cf (a b : List UInt8) : Int := orI (Cg ((Lib.trimLeftB a 48).length : Int) ((Lib.trimLeftB b 48).length : Int)) (Lib.compareBytes (Lib.trimLeftB a 48) (Lib.trimLeftB b 48))
theorem Nd {s : List UInt8} (h : Bm s ≠ 0) : 1 ≤ s.length := by
 cases s with
 | nil => exact absurd (by unfold Bm; rw [if_pos (.inl rfl)]) h
 | cons a r => simp
theorem Ke {s : List UInt8} (h : Bm s = 0) : s.length = 0 ∨ 1 ≤ Ak Aj s := by
 cases s with
 | nil => exact .inl rfl
 | cons a r =>
  right
  unfold Bm at h
  have hb : Ae (a :: r) 0 = a := by simp [Ae]
  rw [hb] at h
  by_cases hd : Aj a = true
  ·unfold Ak; rw [List.takeWhile_cons, hd]; simp
  ·rw [if_neg (by simp [hd])] at h
   split at h
   ·omega
   ·split at h
    ·rename_i hl
     have : a.toNat = 0 := by omega
     unfold Bp at hl; rw [this] at hl; simp at hl
    ·omega
theorem Q0i {s : List UInt8} {i : Nat} (h : ¬ s.drop i = []) : 1 ≤ s.length - i := by
 have := List.length_pos_iff.2 h
 rw [List.length_drop] at this; exact this
def C2 : Nat → List UInt8 → List UInt8 → Int
 | 0, _, _ => 0
 | n + 1, a, b =>
  if Bm a ≠ 0 ∨ Bm b ≠ 0 then (if Bm a ≠ Bm b then Cg (Bm a) (Bm b) else C2 n (a.drop 1) (b.drop 1))
  else if Cf (a.take (Ak Aj a)) (b.take (Ak Aj b)) ≠ 0 then Cf (a.take (Ak Aj a)) (b.take (Ak Aj b))
  else if a.drop (Ak Aj a) ≠ [] ∨ b.drop (Ak Aj b) ≠ [] then C2 n (a.drop (Ak Aj a)) (b.drop (Ak Aj b)) else 0
set_option maxHeartbeats 400000 in
set_option maxRecDepth 100000 in
theorem X1 (x : Int) :
  FnV Tryz.prog 216 [(.int .i64 x)] (.bool false) := by
 refine A1 [.tmp 2] Tryz.func216 rfl Tryz.ntmps216 rfl rfl (fun B F hF => ?_)
 refine Aa [] [0] ?_
 refine Aa [] [2] ?_
 refine Af ?_
 refine RK wR [(.bool (!decide (x = x)))] ?_
 exact Same.of_eq (by simp only [Ah]; simp)
set_option maxHeartbeats 400000 in
set_option maxRecDepth 100000 in
theorem S7 (x y : Int) :
  FnV Tryz.prog 194 [(.int .i64 x), (.int .i64 y)] (.int .i64 (Cg x y)) := by
 refine A1 [.tmp 4] Tryz.func194 rfl Tryz.ntmps194 rfl rfl (fun B F hF => ?_)
 refine Aa [] [0, 1] ?_
 refine Ad [] [0, 1, 5] [] (hk 1 Zu (X1 x) <| hk0) v0 c0 ?_
 refine Ad [] [0, 1, 5, 6] [] (hk 1 Zu (X1 y) <| hk0) v0 c0 ?_
 refine Ab ?_
 refine Aa [] [0, 1, 6, 11] ?_
 refine D6 (by kernel_rfl) ?_
 refine Ag ?_
 refine Ab ?_
 refine Aa [] [0, 1, 13] ?_
 refine D6 (by kernel_rfl) ?_
 refine Ag ?_
 refine Ab ?_
 refine Aa [] [0, 1, 16] ?_
 refine A2 (p := x < y) (by kernel_rfl) (fun c1 => ?_) (fun c1 => ?_)
 ·refine Aa [] [4] ?_
  refine Af ?_
  refine RK wR [(.int .i64 (-1))] ?_
  exact Same.of_eq (by simp only [Ah]; unfold Cg; rw [if_pos (by assumption)])
 ·refine Ag ?_
  refine Ab ?_
  refine Aa [] [19] ?_
  refine A2 (p := y < x) (by kernel_rfl) (fun c2 => ?_) (fun c2 => ?_)
  ·refine Aa [] [4] ?_
   refine Af ?_
   refine RK wR [(.int .i64 1)] ?_
   exact Same.of_eq (by simp only [Ah]; unfold Cg; rw [if_neg (by assumption), if_pos (by assumption)])
  ·refine Ag ?_
   refine Aa [] [4] ?_
   refine Af ?_
   refine RK wR [(.int .i64 0)] ?_
   exact Same.of_eq (by simp only [Ah]; unfold Cg; rw [if_neg (by assumption), if_neg (by assumption)])
set_option maxHeartbeats 400000 in
set_option maxRecDepth 100000 in
theorem Oh (x y : Int) :
  FnV Tryz.prog 130 [(Ap [x, y])] (.int .i64 (orI x y)) := by
 refine A1 [.tmp 2] Tryz.func130 rfl Tryz.ntmps130 rfl rfl (fun B F hF => ?_)
 refine Aa [] [0] ?_
 refine Aa [] [0, 3] ?_
 refine Ab ?_
 refine Aa [] [3, 6, 7, 8] ?_
 refine A0 ?_
 refine Px 3 ?_
 refine E7 ?_
 refine Aa [] [3, 6, 7, 8, 9] ?_
 refine Ab ?_
 refine Gg (by kernel_rfl) ?_
 refine Ag ?_
 refine Ab ?_
 refine A0 ?_
 refine Ad [] [3, 5, 6, 7, 8] [] hk0 v0 (cc 0 (p := (0 ≤ (0 : Int) ∧ 0 < 2)) (by first | omega | (simp; omega) | (simp; done) | (intros; simp_all; omega) | (intros; simp_all; done)) <| c0) ?_
 refine Aa [] [3, 5, 6, 7, 8, 14] ?_
 refine Cm (p := x = 0) (by kernel_rfl) (fun c1 => ?_) (fun c1 => ?_)
 ·refine Aa [] [2] ?_
  refine Af ?_
  refine RK wR [(.int .i64 x)] ?_
  exact Same.of_eq (by simp only [Ah]; unfold orI; rw [if_neg (by assumption)])
 ·refine Ag ?_
  refine Ar ?_
  refine Aw 0 [] [3, 6, 7, 8] [] hk0 v0 (cc 0 (p := (-9223372036854775808 ≤ (1 : Int) ∧ (1 : Int) ≤ 9223372036854775807)) (by first | omega | (simp; omega) | (simp; done) | (intros; simp_all; omega) | (intros; simp_all; done)) <| c0) ?_
  refine E7 ?_
  refine Aa [] [3, 6, 7, 8, 9] ?_
  refine Ab ?_
  refine Gg (by kernel_rfl) ?_
  refine Ag ?_
  refine Ab ?_
  refine A0 ?_
  refine Ad [] [3, 5, 6, 7, 8] [] hk0 v0 (cc 0 (p := (0 ≤ (1 : Int) ∧ 1 < 2)) (by first | omega | (simp; omega) | (simp; done) | (intros; simp_all; omega) | (intros; simp_all; done)) <| c0) ?_
  refine Aa [] [3, 5, 6, 7, 8, 14] ?_
  refine Cm (p := y = 0) (by kernel_rfl) (fun c2 => ?_) (fun c2 => ?_)
  ·refine Aa [] [2] ?_
   refine Af ?_
   refine RK wR [(.int .i64 y)] ?_
   exact Same.of_eq (by simp only [Ah]; unfold orI; rw [if_pos (by simp_all)] <;> rfl)
  ·refine Ag ?_
   refine Ar ?_
   refine Aw 0 [] [3, 6, 7, 8] [] hk0 v0 (cc 0 (p := (-9223372036854775808 ≤ (2 : Int) ∧ (2 : Int) ≤ 9223372036854775807)) (by first | omega | (simp; omega) | (simp; done) | (intros; simp_all; omega) | (intros; simp_all; done)) <| c0) ?_
   refine E7 ?_
   refine Aa [] [3, 6, 7, 8, 9] ?_
   refine Ab ?_
   refine D6 (by kernel_rfl) ?_
   refine Bj ?_
   refine Aa [] [2] ?_
   refine Af ?_
   refine RK wR [(.int .i64 0)] ?_
   exact Same.of_eq (by simp only [Ah]; unfold orI; rw [if_pos (by simp_all)] <;> simp_all)
set_option maxHeartbeats 400000 in
set_option maxRecDepth 100000 in
theorem Ri (a b : List UInt8) :
  FnV Tryz.prog 163 [(.str a), (.str b)] (.int .i64 (Cf a b)) := by
 refine A1 [.tmp 4] Tryz.func163 rfl Tryz.ntmps163 rfl rfl (fun B F hF => ?_)
 refine Aa [] [0, 1] ?_
 refine Ad [] [0, 1] [] (hk 1 Sr (Q15 a 48 (by decide)) <| hk 3 Sr (Q15 b 48 (by decide)) <| hk0) v0 c0 ?_
 refine Ad [] [4] [(9, 17)] (hk 4 Sp (S7 ((Lib.trimLeftB a 48).length : Int) ((Lib.trimLeftB b 48).length : Int)) <| hk 7 Z0 (Q2t (Lib.trimLeftB a 48) (Lib.trimLeftB b 48)) <| hk 9 Pc (Oh (Cg ((Lib.trimLeftB a 48).length : Int) ((Lib.trimLeftB b 48).length : Int)) (Lib.compareBytes (Lib.trimLeftB a 48) (Lib.trimLeftB b 48))) <| hk0) (vk 9 17 (b := (Ap [Cg ((Lib.trimLeftB a 48).length : Int) ((Lib.trimLeftB b 48).length : Int), Lib.compareBytes (Lib.trimLeftB a 48) (Lib.trimLeftB b 48)])) (Imp.list (f := AV.int .i64) rfl) <| v0) c0 ?_
 refine Af ?_
 refine RK wR [(.int .i64 (Cf a b))] ?_
 exact Same.of_eq (by first | rfl | (simp only [Ah]; simp_all))
set_option maxHeartbeats 1000000 in
set_option maxRecDepth 100000 in
theorem X1x (n : Nat) (a0 b0 : List UInt8) (h0 : a0.length + b0.length < n) (ha : a0.length ≤ 4194304) (hb : b0.length ≤ 4194304) :
  FnV Tryz.prog 164 [(.str a0), (.str b0)] (.int .i64 (C2 n a0 b0)) := by
 refine A1 [.tmp 4] Tryz.func164 rfl Tryz.ntmps164 rfl rfl (fun B F hF => ?_)
 refine Aa [] [0, 1] ?_
 refine Q17 0 rfl (fun g y => ∃ (k : Nat) (a : List UInt8) (b : List UInt8), a.length + b.length < k ∧ a.length ≤ 4194304 ∧ b.length ≤ 4194304 ∧ C2 n a0 b0 = C2 k a b ∧ y = ⟨[(0, (.str a)), (1, (.str b))], [], 0⟩ ∧ g = k) [0, 1] 0 (by omega) (fun hJ0 => ?_) ?_
 ·refine Ab ?_
  refine Q2a ?_
  refine Py (y := ⟨[(0, (.str a0)), (1, (.str b0))], [], 0⟩) [0, 1] 0 (by omega) (by kernel_rfl) (hJ0 _ _ ⟨n, a0, b0, (by omega), (by omega), (by omega), (by rfl), (by kernel_rfl), rfl⟩)
 ·rintro g y ⟨k, a, b, fl0_1, fl0_2, fl0_3, fl0_4, rfl, rfl⟩
  have hca := E6 Aj a
  have hcb := E6 Aj b
  refine Ab ?_
  refine Ad [] [0, 1, 5, 6] [] (hk 1 Zz (T7 a) <| hk 3 Zz (T7 b) <| hk0) v0 c0 ?_
  obtain ⟨b1, hb1⟩ : ∃ b, b = (!decide ((Bm a) = 0)) := ⟨_, rfl⟩
  refine Ad (CS := [(4, ((!b1) = true → (!b1) = true)), (5, (b1 = false → (!b1) = true))]) [17, 18] [0, 1, 5, 6, 19] [] hk0 (vk 3 16 (a := .bool (!decide ((Bm a) = 0))) (b := .bool b1) (Imp.of_eq (by rw [hb1])) <| v0) (by refine cc _ ?_ <| cc _ ?_ c0 <;> first | omega | (simp; omega) | (simp; done) | (intros; simp_all; omega) | (intros; simp_all; done)) ?_
  refine A3 (q := b1 || (!decide ((Bm b) = 0))) (by kernel_rfl) (fun c1 => ?_) (fun c1 => ?_)
  ·subst hb1
   try simp only [Bool.and_eq_true, Bool.or_eq_true, Bool.and_eq_false_iff, Bool.or_eq_false_iff, Bool.not_eq_true', Bool.not_eq_false', decide_eq_true_eq, decide_eq_false_iff_not] at c1
   refine Ab ?_
   refine Aa [] [0, 1, 5, 6, 22] ?_
   refine Cm (p := (Bm a) = (Bm b)) (by kernel_rfl) (fun c2 => ?_) (fun c2 => ?_)
   ·refine Ad [] [4] [] (hk 2 Sp (S7 (Bm a) (Bm b)) <| hk0) v0 c0 ?_
    refine Af ?_
    refine RK wR [(.int .i64 (Cg (Bm a) (Bm b)))] ?_
    refine Same.of_eq ?_
    simp only [Ah]
    rw [fl0_4]
    obtain ⟨k, rfl⟩ : ∃ q, g = q + 1 := ⟨g - 1, by omega⟩
    try simp only [List.take_length, List.drop_zero] at *
    unfold C2
    rw [if_pos (by assumption), if_pos (by assumption)]
   ·have hpa := Nd (s := a) (by omega)
    have hpb := Nd (s := b) (by omega)
    refine Ag ?_
    refine Cn (CS := [(1, (0 ≤ (1 : Int) ∧ (1 : Int) ≤ (a.length : Int) ∧ (a.length : Int) ≤ (a.length : Int))), (3, (0 ≤ (1 : Int) ∧ (1 : Int) ≤ (b.length : Int) ∧ (b.length : Int) ≤ (b.length : Int)))]) [] [0, 1] [] hk0 v0 (by refine cc _ ?_ <| cc _ ?_ c0 <;> first | omega | (simp; omega) | (simp; done) | (intros; simp_all; omega) | (intros; simp_all; done)) ?_
    have hza := fun h => Ke (s := a) h
    have hzb := fun h => Ke (s := b) h
    refine Lm ⟨rfl, _, (by kernel_rfl : gcS _ _ _ = some ⟨[(0, (.str ((a.take a.length).drop 1))), (1, (.str ((b.take b.length).drop 1)))], [], 0⟩), _, ?_, g - 1, ((a.take a.length).drop 1), ((b.take b.length).drop 1), ?_, ?_, ?_, ?_, (by kernel_rfl), rfl⟩
    all_goals (obtain ⟨k, rfl⟩ : ∃ q, g = q + 1 := ⟨g - 1, by omega⟩)
    all_goals try simp only [List.take_length, List.drop_zero, List.length_drop] at *
    all_goals have hdec : a.length = 0 → b.length = 0 → False := fun e1 e2 => by first | omega | (rcases c4 with h | h <;> have := Q0i h <;> omega)
    ·first | omega | (have h1 := hza (by omega); have h2 := hzb (by omega); have h3 : ¬ (a.length = 0 ∧ b.length = 0) := fun e => hdec e.1 e.2; omega)
    ·first | omega | (have h1 := hza (by omega); have h2 := hzb (by omega); have h3 : ¬ (a.length = 0 ∧ b.length = 0) := fun e => hdec e.1 e.2; omega)
    ·omega
    ·omega
    ·rw [fl0_4]
     conv => lhs; unfold C2
     first | (rw [if_pos (by assumption), if_neg (by omega)]; rfl) | (rw [if_neg (by omega), if_neg (by omega), if_pos (by simp_all)]; rfl)
  ·subst hb1
   try simp only [Bool.and_eq_true, Bool.or_eq_true, Bool.and_eq_false_iff, Bool.or_eq_false_iff, Bool.not_eq_true', Bool.not_eq_false', decide_eq_true_eq, decide_eq_false_iff_not] at c1
   refine Ag ?_
   refine Ad [] [0, 1, 7, 8] [] (hk 1 (al := [(.str a), (.fn 148 [] [])]) Gx ((Hq a (.fn 148 [] []) Aj (by omega) (fun c => FunV.of (by exact Hn) (H5 c))).of_args (ImpL.cons Imp.refl (ImpL.cons (Imp.clo rfl) ImpL.nil))) <| hk 3 (al := [(.str b), (.fn 148 [] [])]) Gx ((Hq b (.fn 148 [] []) Aj (by omega) (fun c => FunV.of (by exact Hn) (H5 c))).of_args (ImpL.cons Imp.refl (ImpL.cons (Imp.clo rfl) ImpL.nil))) <| hk0) v0 c0 ?_
   refine Ab ?_
   refine Cn (CS := [(2, (0 ≤ (0 : Int) ∧ (0 : Int) ≤ (Ak Aj a : Int) ∧ (Ak Aj a : Int) ≤ (a.length : Int))), (5, (0 ≤ (0 : Int) ∧ (0 : Int) ≤ (Ak Aj b : Int) ∧ (Ak Aj b : Int) ≤ (b.length : Int)))]) [] [0, 1, 7, 8, 9] [] (hk 6 Sq (Ri ((a.take (Ak Aj a)).drop 0) ((b.take (Ak Aj b)).drop 0)) <| hk0) v0 (by refine cc _ ?_ <| cc _ ?_ c0 <;> first | omega | (simp; omega) | (simp; done) | (intros; simp_all; omega) | (intros; simp_all; done)) ?_
   refine Aa [] [0, 1, 7, 8, 9, 42] ?_
   refine Cm (p := (Cf ((a.take (Ak Aj a)).drop 0) ((b.take (Ak Aj b)).drop 0)) = 0) (by kernel_rfl) (fun c3 => ?_) (fun c3 => ?_)
   ·refine Aa [] [4] ?_
    refine Af ?_
    refine RK wR [(.int .i64 (Cf ((a.take (Ak Aj a)).drop 0) ((b.take (Ak Aj b)).drop 0)))] ?_
    refine Same.of_eq ?_
    simp only [Ah]
    rw [fl0_4]
    obtain ⟨k, rfl⟩ : ∃ q, g = q + 1 := ⟨g - 1, by omega⟩
    try simp only [List.take_length, List.drop_zero] at *
    unfold C2
    rw [if_neg (by omega), if_pos (by assumption)]
   ·refine Ag ?_
    refine Ab ?_
    refine Cn (CS := [(2, (0 ≤ (Ak Aj a : Int) ∧ (Ak Aj a : Int) ≤ (a.length : Int) ∧ (a.length : Int) ≤ (a.length : Int))), (5, (0 ≤ (Ak Aj b : Int) ∧ (Ak Aj b : Int) ≤ (b.length : Int) ∧ (b.length : Int) ≤ (b.length : Int)))]) [] [0, 1] [] hk0 v0 (by refine cc _ ?_ <| cc _ ?_ c0 <;> first | omega | (simp; omega) | (simp; done) | (intros; simp_all; omega) | (intros; simp_all; done)) ?_
    obtain ⟨b2, hb2⟩ : ∃ b, b = (!decide ((a.take a.length).drop (Ak Aj a) = [])) := ⟨_, rfl⟩
    refine Ad (CS := [(4, ((!b2) = true → (!b2) = true)), (5, (b2 = false → (!b2) = true))]) [53, 54] [0, 1, 55] [] hk0 (vk 3 52 (a := .bool (!decide ((a.take a.length).drop (Ak Aj a) = []))) (b := .bool b2) (Imp.of_eq (by rw [hb2])) <| v0) (by refine cc _ ?_ <| cc _ ?_ c0 <;> first | omega | (simp; omega) | (simp; done) | (intros; simp_all; omega) | (intros; simp_all; done)) ?_
    refine A3 (q := b2 || (!decide ((b.take b.length).drop (Ak Aj b) = []))) (by kernel_rfl) (fun c4 => ?_) (fun c4 => ?_)
    ·subst hb2
     try simp only [Bool.and_eq_true, Bool.or_eq_true, Bool.and_eq_false_iff, Bool.or_eq_false_iff, Bool.not_eq_true', Bool.not_eq_false', decide_eq_true_eq, decide_eq_false_iff_not] at c4
     have hza := fun h => Ke (s := a) h
     have hzb := fun h => Ke (s := b) h
     refine Lm ⟨rfl, _, (by kernel_rfl : gcS _ _ _ = some ⟨[(0, (.str ((a.take a.length).drop (Ak Aj a)))), (1, (.str ((b.take b.length).drop (Ak Aj b))))], [], 0⟩), _, ?_, g - 1, ((a.take a.length).drop (Ak Aj a)), ((b.take b.length).drop (Ak Aj b)), ?_, ?_, ?_, ?_, (by kernel_rfl), rfl⟩
     all_goals (obtain ⟨k, rfl⟩ : ∃ q, g = q + 1 := ⟨g - 1, by omega⟩)
     all_goals try simp only [List.take_length, List.drop_zero, List.length_drop] at *
     all_goals have hdec : a.length = 0 → b.length = 0 → False := fun e1 e2 => by first | omega | (rcases c4 with h | h <;> have := Q0i h <;> omega)
     ·first | omega | (have h1 := hza (by omega); have h2 := hzb (by omega); have h3 : ¬ (a.length = 0 ∧ b.length = 0) := fun e => hdec e.1 e.2; omega)
     ·first | omega | (have h1 := hza (by omega); have h2 := hzb (by omega); have h3 : ¬ (a.length = 0 ∧ b.length = 0) := fun e => hdec e.1 e.2; omega)
     ·omega
     ·omega
     ·rw [fl0_4]
      conv => lhs; unfold C2
      first | (rw [if_pos (by assumption), if_neg (by omega)]; rfl) | (rw [if_neg (by omega), if_neg (by omega), if_pos (by simp_all)]; rfl)
    ·subst hb2
     try simp only [Bool.and_eq_true, Bool.or_eq_true, Bool.and_eq_false_iff, Bool.or_eq_false_iff, Bool.not_eq_true', Bool.not_eq_false', decide_eq_true_eq, decide_eq_false_iff_not] at c4
     refine Ag ?_
     refine Aa [] [4] ?_
     refine Af ?_
     refine RK wR [(.int .i64 0)] ?_
     refine Same.of_eq ?_
     simp only [Ah]
     rw [fl0_4]
     obtain ⟨k, rfl⟩ : ∃ q, g = q + 1 := ⟨g - 1, by omega⟩
     try simp only [List.take_length, List.drop_zero] at *
     unfold C2
     rw [if_neg (by omega), if_neg (by omega), if_neg (by simp_all)]
end Sv
end Go.Proofs.YtlfjokcbkopfeaaGreatDoor
end
section
namespace Go.Proofs.YtlfjokcbkopfeaaGreatDoor
open Go Go.RowKit
namespace Sv
attribute [local irreducible] SW SO Bg
theorem Z6 : Am Tryz.prog 165 := Av Tryz.func165 (by kernel_rfl) rfl
theorem Q0b : Am Tryz.prog 129 := Av Tryz.func129 (by kernel_rfl) rfl
def orS (x y : List UInt8) : List UInt8 := if x = [] then y else x
def Au (k : Int) (a b : List UInt8) : (List UInt8 × List UInt8 × List UInt8) × (List UInt8 × List UInt8 × List UInt8) × Int :=
 if k ≠ 1 ∧ k ≠ 2 then (([], [], []), ([], [], []), 1) else if Bz a = 0 then (B7 a, B7 b, Bz b) else (B7 a, ([], [], []), Bz a)
set_option maxHeartbeats 400000 in
set_option maxRecDepth 100000 in
theorem Wq (x y : List UInt8) :
  FnV Tryz.prog 165 [(Ct [x, y])] (.str (orS x y)) := by
 refine A1 [.tmp 2] Tryz.func165 rfl Tryz.ntmps165 rfl rfl (fun B F hF => ?_)
 refine Aa [] [0] ?_
 refine Aa [] [0, 3] ?_
 refine Ab ?_
 refine Aa [] [3, 6, 7, 8] ?_
 refine A0 ?_
 refine Px 3 ?_
 refine E7 ?_
 refine Aa [] [3, 6, 7, 8, 9] ?_
 refine Ab ?_
 refine Gg (by kernel_rfl) ?_
 refine Ag ?_
 refine Ab ?_
 refine A0 ?_
 refine Ad [] [3, 5, 6, 7, 8] [] hk0 v0 (cc 0 (p := (0 ≤ (0 : Int) ∧ 0 < 2)) (by first | omega | (simp; omega) | (simp; done) | (intros; simp_all; omega) | (intros; simp_all; done)) <| c0) ?_
 refine Aa [] [3, 5, 6, 7, 8, 14] ?_
 refine Cm (p := x = []) (by kernel_rfl) (fun c1 => ?_) (fun c1 => ?_)
 ·refine Aa [] [2] ?_
  refine Af ?_
  refine RK wR [(.str x)] ?_
  exact Same.of_eq (by simp only [Ah]; unfold orS; rw [if_neg (by assumption)])
 ·refine Ag ?_
  refine Ar ?_
  refine Aw 0 [] [3, 6, 7, 8] [] hk0 v0 (cc 0 (p := (-9223372036854775808 ≤ (1 : Int) ∧ (1 : Int) ≤ 9223372036854775807)) (by first | omega | (simp; omega) | (simp; done) | (intros; simp_all; omega) | (intros; simp_all; done)) <| c0) ?_
  refine E7 ?_
  refine Aa [] [3, 6, 7, 8, 9] ?_
  refine Ab ?_
  refine Gg (by kernel_rfl) ?_
  refine Ag ?_
  refine Ab ?_
  refine A0 ?_
  refine Ad [] [3, 5, 6, 7, 8] [] hk0 v0 (cc 0 (p := (0 ≤ (1 : Int) ∧ 1 < 2)) (by first | omega | (simp; omega) | (simp; done) | (intros; simp_all; omega) | (intros; simp_all; done)) <| c0) ?_
  refine Aa [] [3, 5, 6, 7, 8, 14] ?_
  refine Cm (p := y = []) (by kernel_rfl) (fun c2 => ?_) (fun c2 => ?_)
  ·refine Aa [] [2] ?_
   refine Af ?_
   refine RK wR [(.str y)] ?_
   exact Same.of_eq (by simp only [Ah]; unfold orS; rw [if_pos (by simp_all)] <;> rfl)
  ·refine Ag ?_
   refine Ar ?_
   refine Aw 0 [] [3, 6, 7, 8] [] hk0 v0 (cc 0 (p := (-9223372036854775808 ≤ (2 : Int) ∧ (2 : Int) ≤ 9223372036854775807)) (by first | omega | (simp; omega) | (simp; done) | (intros; simp_all; omega) | (intros; simp_all; done)) <| c0) ?_
   refine E7 ?_
   refine Aa [] [3, 6, 7, 8, 9] ?_
   refine Ab ?_
   refine D6 (by kernel_rfl) ?_
   refine Bj ?_
   refine Aa [] [2] ?_
   refine Af ?_
   refine RK wR [(.str [])] ?_
   exact Same.of_eq (by simp only [Ah]; unfold orS; rw [if_pos (by simp_all)] <;> simp_all)
set_option maxHeartbeats 1000000 in
set_option maxRecDepth 100000 in
theorem Q02 (kind : Int) (a b : List UInt8) (ha : a.length ≤ 4194304) (hb : b.length ≤ 4194304) :
  FnV Tryz.prog 129 [(.int .i64 kind), (.str a), (.str b)] (.tup [(.agg [.str (Au kind a b).1.1, .str (Au kind a b).1.2.1, .str (Au kind a b).1.2.2]), (.agg [.str (Au kind a b).2.1.1, .str (Au kind a b).2.1.2.1, .str (Au kind a b).2.1.2.2]), .int .i64 (Au kind a b).2.2]) := by
 refine A1 [.cell 6 136, .cell 7 136, .tmp 8] Tryz.func129 rfl Tryz.ntmps129 rfl rfl (fun B F hF => ?_)
 refine Aa [] [0, 1, 2, 6, 7] ?_
 refine Ab ?_
 obtain ⟨b1, hb1⟩ : ∃ b, b = (!decide (kind = 1)) := ⟨_, rfl⟩
 refine Ad (CS := [(4, (b1 = true → b1 = true)), (5, (b1 = true → b1 = true))]) [12, 13] [1, 2, 6, 7, 14] [] hk0 (vk 3 11 (a := .bool (!decide (kind = 1))) (b := .bool b1) (Imp.of_eq (by rw [hb1])) <| v0) (by refine cc _ ?_ <| cc _ ?_ c0 <;> first | omega | (simp; omega) | (simp; done) | (intros; simp_all; omega) | (intros; simp_all; done)) ?_
 refine A3 (q := b1 && (!decide (kind = 2))) (by kernel_rfl) (fun c1 => ?_) (fun c1 => ?_)
 ·subst hb1
  try simp only [Bool.and_eq_true, Bool.or_eq_true, Bool.and_eq_false_iff, Bool.or_eq_false_iff, Bool.not_eq_true', Bool.not_eq_false', decide_eq_true_eq, decide_eq_false_iff_not] at c1
  refine Cn [] [6, 7, 8] [] hk0 v0 c0 ?_
  refine Af ?_
  refine RK wR [(.agg [(.str []), (.str []), (.str [])]), (.agg [(.str []), (.str []), (.str [])]), (.int .i64 1)] ?_
  exact Same.of_eq (by simp only [Ah]; unfold Au; first | (rw [if_pos (by omega)]; done) | (rw [if_neg (by omega), if_pos (by omega)]; done) | (rw [if_neg (by omega), if_neg (by omega)]; done))
 ·subst hb1
  try simp only [Bool.and_eq_true, Bool.or_eq_true, Bool.and_eq_false_iff, Bool.or_eq_false_iff, Bool.not_eq_true', Bool.not_eq_false', decide_eq_true_eq, decide_eq_false_iff_not] at c1
  refine Ag ?_
  refine Ab ?_
  refine Ad [] [2, 6, 7, 8] [] (hk 1 Mu (O6 a (by omega)) <| hk0) v0 c0 ?_
  refine Aa [] [2, 6, 7, 8, 23] ?_
  refine A2 (p := (Bz a) = 0) (by kernel_rfl) (fun c2 => ?_) (fun c2 => ?_)
  ·refine Ar ?_
   refine Aw 0 [] [6, 7, 8] [] (hk 1 Mu (O6 b (by omega)) <| hk0) v0 c0 ?_
   refine Cn [] [6, 7, 8] [] hk0 v0 c0 ?_
   refine Af ?_
   refine RK wR [(.agg [(.str ((B7 a).1)), (.str ((B7 a).2.1)), (.str ((B7 a).2.2))]), (.agg [(.str ((B7 b).1)), (.str ((B7 b).2.1)), (.str ((B7 b).2.2))]), (.int .i64 (Bz b))] ?_
   exact Same.of_eq (by simp only [Ah]; unfold Au; first | (rw [if_pos (by omega)]; done) | (rw [if_neg (by omega), if_pos (by omega)]; done) | (rw [if_neg (by omega), if_neg (by omega)]; done))
  ·refine Ag ?_
   refine Cn [] [6, 7, 8] [] hk0 v0 c0 ?_
   refine Af ?_
   refine RK wR [(.agg [(.str ((B7 a).1)), (.str ((B7 a).2.1)), (.str ((B7 a).2.2))]), (.agg [(.str []), (.str []), (.str [])]), (.int .i64 (Bz a))] ?_
   exact Same.of_eq (by simp only [Ah]; unfold Au; first | (rw [if_pos (by omega)]; done) | (rw [if_neg (by omega), if_pos (by omega)]; done) | (rw [if_neg (by omega), if_neg (by omega)]; done))
end Sv
end Go.Proofs.YtlfjokcbkopfeaaGreatDoor
end
section
namespace Go.Proofs.YtlfjokcbkopfeaaGreatDoor
open Go Go.RowKit
namespace Sv
attribute [local irreducible] SW SO Bg
theorem Z5 : Am Tryz.prog 166 := Av Tryz.func166 (by kernel_rfl) rfl
theorem Zy : Am Tryz.prog 197 := Av Tryz.func197 (by kernel_rfl) rfl
theorem X0l : Am Tryz.prog 198 := Av Tryz.func198 (by kernel_rfl) rfl
theorem X0k : Am Tryz.prog 199 := Av Tryz.func199 (by kernel_rfl) rfl
def Et (c : UInt8) : Bool := Aj c || (Bp c || (decide (c.toNat = 126) || decide (c.toNat = 94)))
set_option maxHeartbeats 400000 in
set_option maxRecDepth 100000 in
theorem Q7x (c : UInt8) :
  FnV Tryz.prog 198 [(.int .u8 ((c.toNat : Int)))] (.bool (Et c)) := by
 refine A1 [.tmp 2] Tryz.func198 rfl Tryz.ntmps198 rfl rfl (fun B F hF => ?_)
 refine Aa [] [0] ?_
 obtain ⟨b1, hb1⟩ : ∃ b, b = ((Aj c) || (Bp c)) := ⟨_, rfl⟩
 obtain ⟨b2, hb2⟩ : ∃ b, b = (b1 || (decide ((c.toNat : Int) = 126))) := ⟨_, rfl⟩
 refine Ad (CS := [(4, (!(Aj c)) = true → (!(Aj c)) = true), (5, ((Aj c) = false → (!(Aj c)) = true)), (8, ((!b1) = true → (!b1) = true)), (9, (b1 = false → (!b1) = true)), (12, ((!b2) = true → (!b2) = true)), (13, (b2 = false → (!b2) = true))]) [6, 10, 11, 14, 15] [2] [] (hk 1 Hn (H5 c) <| hkg 4 (!(Aj c)) Lc (fun cg => Mf c) <| hk0) (vk 7 9 (a := .bool ((Aj c) || (Bp c))) (b := .bool b1) (Imp.of_eq (by rw [hb1])) <| vk 11 13 (a := .bool (b1 || (decide ((c.toNat : Int) = 126)))) (b := .bool b2) (Imp.of_eq (by rw [hb2])) <| v0) (by refine cc _ ?_ <| cc _ ?_ <| cc _ ?_ <| cc _ ?_ <| cc _ ?_ <| cc _ ?_ c0 <;> first | omega | (simp; omega) | (simp; done) | (intros; simp_all; omega) | (intros; simp_all; done)) ?_
 refine Af ?_
 refine RK wR [(.bool (b2 || (decide ((c.toNat : Int) = 94))))] ?_
 subst hb2 hb1
 refine Same.of_eq ?_
 simp only [Ah]
 congr 1
 unfold Et
 rw [Bool.eq_iff_iff]
 have e1 : ((c.toNat : Int) = 126) ↔ c.toNat = 126 := by omega
 have e2 : ((c.toNat : Int) = 94) ↔ c.toNat = 94 := by omega
 simp only [Bool.and_eq_true, Bool.or_eq_true, decide_eq_true_eq, e1, e2, or_assoc]
set_option maxHeartbeats 400000 in
set_option maxRecDepth 100000 in
theorem Q6u (c : UInt8) (a : AV) (q : Bool) (ha : FunV Tryz.prog a [.int .u8 (c.toNat : Int)] (.bool q)) :
  FnV Tryz.prog 199 [(.int .u8 ((c.toNat : Int))), (.fp (.agg [(.clo a)]))] (.bool (!q)) := by
 refine A1 [.tmp 3] Tryz.func199 rfl Tryz.ntmps199 rfl rfl (fun B F hF => ?_)
 refine Aa [] [0, 1] ?_
 refine Ab ?_
 refine Ar ?_
 refine Bv 2 0 [] [4, 5] [] hk0 v0 c0 ?_
 refine G3 (s' := [(4, (.clo a)), (5, (.int .u8 ((c.toNat : Int)))), (6, (.bool q))]) (a := (.clo a)) (al := [(.int .u8 ((c.toNat : Int)))]) (r := (.bool q)) (by kernel_rfl) (by kernel_rfl) (by kernel_rfl) (by kernel_rfl) (by kernel_rfl) ha.clo (by kernel_rfl) ?_
 refine Aw 3 [] [3] [] hk0 v0 c0 ?_
 refine Af ?_
 refine RK wR [(.bool (!q))] ?_
 exact Same.of_eq (by first | rfl | (simp only [Ah]; simp_all))
set_option maxHeartbeats 400000 in
set_option maxRecDepth 100000 in
theorem X2p (a b : List UInt8) (ha : a.length ≤ 4194304) (hb : b.length ≤ 4194304) :
  FnV Tryz.prog 197 [(.int .u8 126), (.fp (.agg [(.str a)])), (.fp (.agg [(.str b)]))] (.tup [.bool (Ay a 126), .bool (Ay b 126)]) := by
 refine A1 [.tmp 4, .tmp 5] Tryz.func197 rfl Tryz.ntmps197 rfl rfl (fun B F hF => ?_)
 refine Aa [] [0, 1, 2] ?_
 refine Cn [] [4, 5] [] (hk 3 Ld (Nb a 126 (by omega)) <| hk 7 Ld (Nb b 126 (by omega)) <| hk0) v0 c0 ?_
 refine Af ?_
 refine RK wR [(.bool (Ay a 126)), (.bool (Ay b 126))] ?_
 exact Same.of_eq (by first | rfl | (simp only [Ah]; simp_all))
set_option maxHeartbeats 400000 in
set_option maxRecDepth 100000 in
theorem X2o (a b : List UInt8) (ha : a.length ≤ 4194304) (hb : b.length ≤ 4194304) :
  FnV Tryz.prog 197 [(.int .u8 94), (.fp (.agg [(.str a)])), (.fp (.agg [(.str b)]))] (.tup [.bool (Ay a 94), .bool (Ay b 94)]) := by
 refine A1 [.tmp 4, .tmp 5] Tryz.func197 rfl Tryz.ntmps197 rfl rfl (fun B F hF => ?_)
 refine Aa [] [0, 1, 2] ?_
 refine Cn [] [4, 5] [] (hk 3 Ld (Nb a 94 (by omega)) <| hk 7 Ld (Nb b 94 (by omega)) <| hk0) v0 c0 ?_
 refine Af ?_
 refine RK wR [(.bool (Ay a 94)), (.bool (Ay b 94))] ?_
 exact Same.of_eq (by first | rfl | (simp only [Ah]; simp_all))
end Sv
end Go.Proofs.YtlfjokcbkopfeaaGreatDoor
end
section
namespace Go.Proofs.YtlfjokcbkopfeaaGreatDoor
open Go Go.RowKit
namespace Sv
attribute [local irreducible] SW SO Bg
def Ci (c : UInt8) : Bool := !Et c
theorem W2 (c : UInt8) : FunV Tryz.prog (.fn 199 [] [.fp (.agg [.fn 198 [] []])]) [.int .u8 (c.toNat : Int)] (.bool (Ci c)) :=
 FunV.of (by exact X0k) ((Q6u c (.fn 198 [] []) (Et c) (FunV.of (by exact X0l) (Q7x c))).of_args (ImpL.cons Imp.refl (ImpL.cons (Imp.fp (Imp.aggs (ImpL.cons (Imp.clo rfl) ImpL.nil))) ImpL.nil)))
theorem Jt {s : List UInt8} {k : UInt8} (h : Ay s k = true) : 1 ≤ s.length := by
 cases s with
 | nil => simp [Ay] at h
 | cons a r => simp
theorem Q0q (p : UInt8 → Bool) : ∀ s : List UInt8, s.drop (Ak p s) = [] ∨ p (Ae (s.drop (Ak p s)) 0) = false
 | [] => .inl rfl
 | a :: r => by
  unfold Ak
  rw [List.takeWhile_cons]
  cases h : p a with
  | true => exact Q0q p r
  | false => right; simpa [Ae] using h
theorem Ok {s r : List UInt8} (h : r = s.drop (Ak Ci s)) : r = [] ∨ Et (Ae r 0) = true := by
 rcases Q0q Ci s with q | q
 ·exact .inl (h.trans q)
 ·right
  rw [h]
  have e : (!Et (Ae (s.drop (Ak Ci s)) 0)) = false := q
  simpa using e
theorem Mv {p : UInt8 → Bool} {s : List UInt8} (h : 1 ≤ s.length) (k : p (Ae s 0) = true) : 1 ≤ Ak p s := by
 cases s with
 | nil => simp at h
 | cons a r => unfold Ak; rw [List.takeWhile_cons, show p a = true from by simpa [Ae] using k]; simp
theorem Xk {s : List UInt8} (h : Et (Ae s 0) = true) (hs : 1 ≤ s.length) (h1 : Ay s 126 = false) (h2 : Ay s 94 = false) (h3 : Aj (Ae s 0) = false) : Bp (Ae s 0) = true := by
 cases s with
 | nil => simp at hs
 | cons a r =>
  have e : Ae (a :: r) 0 = a := by simp [Ae]
  rw [e] at h h3 ⊢
  unfold Et at h
  rw [h3] at h
  have a1 : ¬ a.toNat = 126 := fun q => by have : a = 126 := UInt8.toNat_inj.1 q; subst this; simp [Ay] at h1
  have a2 : ¬ a.toNat = 94 := fun q => by have : a = 94 := UInt8.toNat_inj.1 q; subst this; simp [Ay] at h2
  simpa [a1, a2] using h
def Cz (r : List UInt8 → List UInt8 → Int) (a b : List UInt8) : Int :=
 if Ay a 126 = true ∨ Ay b 126 = true then
  if Ay a 126 = true ∧ Ay b 126 = true then r (a.drop 1) (b.drop 1) else Eb (Ay a 126) (Ay b 126) (-1)
 else if Ay a 94 = true ∨ Ay b 94 = true then
  if Ay a 94 = true ∧ Ay b 94 = true then r (a.drop 1) (b.drop 1)
  else if a = [] ∨ b = [] then Eb (Ay a 94) (Ay b 94) 1 else Eb (Ay a 94) (Ay b 94) (-1)
 else if a = [] ∨ b = [] then Cg (a.length : Int) (b.length : Int)
 else if Aj (Ae a 0) = true then
  if Ak Aj b = 0 then 1
  else if ¬ Cf (a.take (Ak Aj a)) (b.take (Ak Aj b)) = 0 then Cf (a.take (Ak Aj a)) (b.take (Ak Aj b))
  else r (a.drop (Ak Aj a)) (b.drop (Ak Aj b))
 else if Ak Bp b = 0 then -1
 else if ¬ Lib.compareBytes (a.take (Ak Bp a)) (b.take (Ak Bp b)) = 0 then Lib.compareBytes (a.take (Ak Bp a)) (b.take (Ak Bp b))
 else r (a.drop (Ak Bp a)) (b.drop (Ak Bp b))
def D9 : Nat → List UInt8 → List UInt8 → Int
 | 0, _, _ => 0
 | n + 1, a, b => Cz (D9 n) (a.drop (Ak Ci a)) (b.drop (Ak Ci b))
set_option maxHeartbeats 2000000 in
set_option maxRecDepth 100000 in
theorem Q40 (n : Nat) (a0 b0 : List UInt8) (h0 : a0.length + b0.length < n) (ha : a0.length ≤ 4194304) (hb : b0.length ≤ 4194304) :
  FnV Tryz.prog 166 [(.str a0), (.str b0)] (.int .i64 (D9 n a0 b0)) := by
 refine A1 [.tmp 4] Tryz.func166 rfl Tryz.ntmps166 rfl rfl (fun B F hF => ?_)
 refine Aa [] [2, 3] ?_
 refine Q17 0 rfl (fun g y => ∃ (k : Nat) (a : List UInt8) (b : List UInt8), a.length + b.length < k ∧ a.length ≤ 4194304 ∧ b.length ≤ 4194304 ∧ D9 n a0 b0 = D9 k a b ∧ y = ⟨[(2, (.ptr 0 0)), (3, (.ptr 1 0)), (5, (.fn 197 [] [(.ptr 0 0), (.ptr 1 0)])), (7, (.fn 199 [] [(.fp (.agg [(.fn 198 [] [])]))]))], [(0, (.row [(.str a)] 9)), (1, (.row [(.str b)] 9))], 3⟩ ∧ g = k) [2, 3, 5, 7] 3 (by omega) (fun hJ0 => ?_) ?_
 ·refine Ab ?_
  refine Ar ?_
  refine Ep [] [2, 3, 5] ?_
  refine Ab ?_
  refine Ar ?_
  refine Ep [] [2, 3, 5, 6] ?_
  refine Ab ?_
  refine Ar ?_
  refine Aw 0 [] [2, 3, 5, 7] [(0, 6)] hk0 v0 c0 ?_
  refine Ab ?_
  refine Q2a ?_
  refine Py (y := ⟨[(2, (.ptr 0 0)), (3, (.ptr 1 0)), (5, (.fn 197 [] [(.ptr 0 0), (.ptr 1 0)])), (7, (.fn 199 [] [(.fp (.agg [(.fn 198 [] [])]))]))], [(0, (.row [(.str a0)] 9)), (1, (.row [(.str b0)] 9))], 3⟩) [2, 3, 5, 7] 3 (by omega) (by kernel_rfl) (hJ0 _ _ ⟨n, a0, b0, (by omega), (by omega), (by omega), (by rfl), (by kernel_rfl), rfl⟩)
 ·rintro g y ⟨k, a, b, fl0_1, fl0_2, fl0_3, fl0_4, rfl, rfl⟩
  obtain ⟨k, rfl⟩ : ∃ q, g = q + 1 := ⟨g - 1, by omega⟩
  have hoa := E6 Ci a
  have hob := E6 Ci b
  refine Da (fun y => ∃ (a1 : List UInt8) (b1 : List UInt8), a1 = a.drop (Ak Ci a) ∧ b1 = b.drop (Ak Ci b) ∧ y = ⟨[(2, (.ptr 0 0)), (3, (.ptr 1 0)), (5, (.fn 197 [] [(.ptr 0 0), (.ptr 1 0)])), (7, (.fn 199 [] [(.fp (.agg [(.fn 198 [] [])]))]))], [(0, (.row [(.str a1)] 9)), (1, (.row [(.str b1)] 9))], 3⟩) [2, 3, 5, 7] 3 (by omega) ?_ ?_
  ·refine Gh (CS := [(4, (0 ≤ (Ak Ci a : Int) ∧ (Ak Ci a : Int) ≤ (a.length : Int) ∧ (a.length : Int) ≤ (a.length : Int))), (9, (0 ≤ (Ak Ci b : Int) ∧ (Ak Ci b : Int) ≤ (b.length : Int) ∧ (b.length : Int) ≤ (b.length : Int)))]) [] [2, 3, 5, 7] [] (hk 3 (al := [(.str a), (.fn 199 [] [(.fp (.agg [(.fn 198 [] [])]))])]) Gx ((Hq a (.fn 199 [] [.fp (.agg [.fn 198 [] []])]) Ci (by omega) (fun c => W2 c)).of_args (ImpL.cons Imp.refl (ImpL.cons (Imp.clo rfl) ImpL.nil))) <| hk 8 (al := [(.str b), (.fn 199 [] [(.fp (.agg [(.fn 198 [] [])]))])]) Gx ((Hq b (.fn 199 [] [.fp (.agg [.fn 198 [] []])]) Ci (by omega) (fun c => W2 c)).of_args (ImpL.cons Imp.refl (ImpL.cons (Imp.clo rfl) ImpL.nil))) <| hk0) v0 (by refine cc _ ?_ <| cc _ ?_ c0 <;> first | omega | (simp; omega) | (simp; done) | (intros; simp_all; omega) | (intros; simp_all; done)) ?_
   refine ⟨by kernel_rfl, ((a.take a.length).drop (Ak Ci a)), ((b.take b.length).drop (Ak Ci b)), ?_, ?_, (by kernel_rfl)⟩
   all_goals rw [List.take_length]
  ·rintro y1 ⟨a1, b1, ja, jb, rfl⟩
   have hla : a1.length ≤ a.length := by rw [ja, List.length_drop]; omega
   have hlb : b1.length ≤ b.length := by rw [jb, List.length_drop]; omega
   have hma := Ok ja
   have hmb := Ok jb
   have hxa := fun k => Jt (s := a1) (k := k)
   have hxb := fun k => Jt (s := b1) (k := k)
   have hda := E6 Aj a1
   have hdb := E6 Aj b1
   have hea := E6 Bp a1
   have heb := E6 Bp b1
   have e0 : D9 (k + 1) a b = Cz (D9 k) a1 b1 := by rw [ja, jb]; rfl
   refine Ab ?_
   refine Ab ?_
   refine Ar ?_
   refine Bv 1 0 [] [2, 3, 5, 7, 31] [] hk0 v0 c0 ?_
   refine Q2e (s' := [(2, (.ptr 0 0)), (3, (.ptr 1 0)), (5, (.fn 197 [] [(.ptr 0 0), (.ptr 1 0)])), (7, (.fn 199 [] [(.fp (.agg [(.fn 198 [] [])]))])), (31, (.fn 197 [] [(.ptr 0 0), (.ptr 1 0)])), (32, (.tup [(.bool (Ay a1 126)), (.bool (Ay b1 126))]))]) (al := [(.int .u8 126)]) (f := 197) (cap := [(.ptr 0 0), (.ptr 1 0)]) (al' := [(.int .u8 126), (.fp (.agg [(.str a1)])), (.fp (.agg [(.str b1)]))]) (h' := []) (r := (.tup [(.bool (Ay a1 126)), (.bool (Ay b1 126))])) (by kernel_rfl) (by kernel_rfl) (by exact Zy) (by kernel_rfl) (by kernel_rfl) (X2p a1 b1 (by omega) (by omega)) rfl (by kernel_rfl) ?_
   refine Aw 2 [] [2, 3, 5, 7, 8, 9] [] hk0 v0 c0 ?_
   refine Ad [37] [2, 3, 5, 7, 8, 9, 38] [] hk0 v0 (cc 3 (p := ((Ay a1 126) = false → (!(Ay a1 126)) = true)) (by first | omega | (simp; omega) | (simp; done) | (intros; simp_all; omega) | (intros; simp_all; done)) <| c0) ?_
   refine A3 (q := (Ay a1 126) || (Ay b1 126)) (by kernel_rfl) (fun c1 => ?_) (fun c1 => ?_)
   ·try simp only [Bool.and_eq_true, Bool.or_eq_true, Bool.and_eq_false_iff, Bool.or_eq_false_iff, Bool.not_eq_true', Bool.not_eq_false', decide_eq_true_eq, decide_eq_false_iff_not] at c1
    refine Ab ?_
    refine Ad [41] [2, 3, 5, 7, 8, 9, 42] [] hk0 v0 (cc 3 (p := ((Ay a1 126) = true → (Ay a1 126) = true)) (by first | omega | (simp; omega) | (simp; done) | (intros; simp_all; omega) | (intros; simp_all; done)) <| c0) ?_
    refine A3 (q := (Ay a1 126) && (Ay b1 126)) (by kernel_rfl) (fun c2 => ?_) (fun c2 => ?_)
    ·try simp only [Bool.and_eq_true, Bool.or_eq_true, Bool.and_eq_false_iff, Bool.or_eq_false_iff, Bool.not_eq_true', Bool.not_eq_false', decide_eq_true_eq, decide_eq_false_iff_not] at c2
     have h1 := hxa _ c2.1
     have h2 := hxb _ c2.2
     refine Cn (CS := [(1, (0 ≤ (1 : Int) ∧ (1 : Int) ≤ (a1.length : Int) ∧ (a1.length : Int) ≤ (a1.length : Int))), (3, (0 ≤ (1 : Int) ∧ (1 : Int) ≤ (b1.length : Int) ∧ (b1.length : Int) ≤ (b1.length : Int)))]) [] [2, 3, 5, 7] [] hk0 v0 (by refine cc _ ?_ <| cc _ ?_ c0 <;> first | omega | (simp; omega) | (simp; done) | (intros; simp_all; omega) | (intros; simp_all; done)) ?_
     refine Lm ⟨rfl, _, (by kernel_rfl : gcS _ _ _ = some ⟨[(2, (.ptr 0 0)), (3, (.ptr 1 0)), (5, (.fn 197 [] [(.ptr 0 0), (.ptr 1 0)])), (7, (.fn 199 [] [(.fp (.agg [(.fn 198 [] [])]))]))], [(0, (.row [(.str ((a1.take a1.length).drop 1))] 9)), (1, (.row [(.str ((b1.take b1.length).drop 1))] 9))], 3⟩), _, ?_, k, ((a1.take a1.length).drop 1), ((b1.take b1.length).drop 1), ?_, ?_, ?_, ?_, (by kernel_rfl), rfl⟩
     all_goals (try simp only [List.take_length, List.drop_zero, List.length_drop] at *)
     ·omega
     ·omega
     ·omega
     ·omega
     ·rw [fl0_4, e0]
      unfold Cz
      rw [if_pos c1, if_pos c2]
    ·try simp only [Bool.and_eq_true, Bool.or_eq_true, Bool.and_eq_false_iff, Bool.or_eq_false_iff, Bool.not_eq_true', Bool.not_eq_false', decide_eq_true_eq, decide_eq_false_iff_not] at c2
     refine Ag ?_
     refine Ad [] [4] [] (hk 2 Pb (Og (Ay a1 126) (Ay b1 126) (-1) (by omega)) <| hk0) v0 c0 ?_
     refine Af ?_
     refine RK wR [(.int .i64 (Eb (Ay a1 126) (Ay b1 126) (-1)))] ?_
     refine Same.of_eq ?_
     simp only [Ah]
     try simp only [List.take_length, List.drop_zero] at *
     rw [fl0_4, e0]
     congr 1
     symm
     unfold Cz
     rw [if_pos c1, if_neg (by rcases c2 with h | h <;> simp [h])]
   ·try simp only [Bool.and_eq_true, Bool.or_eq_true, Bool.and_eq_false_iff, Bool.or_eq_false_iff, Bool.not_eq_true', Bool.not_eq_false', decide_eq_true_eq, decide_eq_false_iff_not] at c1
    refine Ag ?_
    refine Ab ?_
    refine Ab ?_
    refine Ar ?_
    refine Bv 1 0 [] [2, 3, 5, 7, 51] [] hk0 v0 c0 ?_
    refine Q2e (s' := [(2, (.ptr 0 0)), (3, (.ptr 1 0)), (5, (.fn 197 [] [(.ptr 0 0), (.ptr 1 0)])), (7, (.fn 199 [] [(.fp (.agg [(.fn 198 [] [])]))])), (51, (.fn 197 [] [(.ptr 0 0), (.ptr 1 0)])), (52, (.tup [(.bool (Ay a1 94)), (.bool (Ay b1 94))]))]) (al := [(.int .u8 94)]) (f := 197) (cap := [(.ptr 0 0), (.ptr 1 0)]) (al' := [(.int .u8 94), (.fp (.agg [(.str a1)])), (.fp (.agg [(.str b1)]))]) (h' := []) (r := (.tup [(.bool (Ay a1 94)), (.bool (Ay b1 94))])) (by kernel_rfl) (by kernel_rfl) (by exact Zy) (by kernel_rfl) (by kernel_rfl) (X2o a1 b1 (by omega) (by omega)) rfl (by kernel_rfl) ?_
    refine Aw 2 [] [2, 3, 5, 7, 10, 11] [] hk0 v0 c0 ?_
    refine Ad [57] [2, 3, 5, 7, 10, 11, 58] [] hk0 v0 (cc 3 (p := ((Ay a1 94) = false → (!(Ay a1 94)) = true)) (by first | omega | (simp; omega) | (simp; done) | (intros; simp_all; omega) | (intros; simp_all; done)) <| c0) ?_
    refine A3 (q := (Ay a1 94) || (Ay b1 94)) (by kernel_rfl) (fun c3 => ?_) (fun c3 => ?_)
    ·try simp only [Bool.and_eq_true, Bool.or_eq_true, Bool.and_eq_false_iff, Bool.or_eq_false_iff, Bool.not_eq_true', Bool.not_eq_false', decide_eq_true_eq, decide_eq_false_iff_not] at c3
     refine Ab ?_
     refine A0 ?_
     refine Ad [62] [2, 3, 5, 7, 10, 11, 59] [] hk0 v0 (cc 3 (p := ((Ay a1 94) = true → (Ay a1 94) = true)) (by first | omega | (simp; omega) | (simp; done) | (intros; simp_all; omega) | (intros; simp_all; done)) <| c0) ?_
     refine A3 (q := (Ay a1 94) && (Ay b1 94)) (by kernel_rfl) (fun c4 => ?_) (fun c4 => ?_)
     ·try simp only [Bool.and_eq_true, Bool.or_eq_true, Bool.and_eq_false_iff, Bool.or_eq_false_iff, Bool.not_eq_true', Bool.not_eq_false', decide_eq_true_eq, decide_eq_false_iff_not] at c4
      have h1 := hxa _ c4.1
      have h2 := hxb _ c4.2
      refine Cn (CS := [(1, (0 ≤ (1 : Int) ∧ (1 : Int) ≤ (a1.length : Int) ∧ (a1.length : Int) ≤ (a1.length : Int))), (3, (0 ≤ (1 : Int) ∧ (1 : Int) ≤ (b1.length : Int) ∧ (b1.length : Int) ≤ (b1.length : Int)))]) [] [2, 3, 5, 7] [] hk0 v0 (by refine cc _ ?_ <| cc _ ?_ c0 <;> first | omega | (simp; omega) | (simp; done) | (intros; simp_all; omega) | (intros; simp_all; done)) ?_
      refine Lm ⟨rfl, _, (by kernel_rfl : gcS _ _ _ = some ⟨[(2, (.ptr 0 0)), (3, (.ptr 1 0)), (5, (.fn 197 [] [(.ptr 0 0), (.ptr 1 0)])), (7, (.fn 199 [] [(.fp (.agg [(.fn 198 [] [])]))]))], [(0, (.row [(.str ((a1.take a1.length).drop 1))] 9)), (1, (.row [(.str ((b1.take b1.length).drop 1))] 9))], 3⟩), _, ?_, k, ((a1.take a1.length).drop 1), ((b1.take b1.length).drop 1), ?_, ?_, ?_, ?_, (by kernel_rfl), rfl⟩
      all_goals (try simp only [List.take_length, List.drop_zero, List.length_drop] at *)
      ·omega
      ·omega
      ·omega
      ·omega
      ·rw [fl0_4, e0]
       unfold Cz
       rw [if_neg (by simp [c1.1, c1.2]), if_pos c3, if_pos c4]
     ·try simp only [Bool.and_eq_true, Bool.or_eq_true, Bool.and_eq_false_iff, Bool.or_eq_false_iff, Bool.not_eq_true', Bool.not_eq_false', decide_eq_true_eq, decide_eq_false_iff_not] at c4
      refine Ad (CS := [(4, ((!(decide (a1 = []))) = true → (!(decide (a1 = []))) = true)), (5, ((decide (a1 = [])) = false → (!(decide (a1 = []))) = true))]) [72, 73] [10, 11, 68] [] hk0 v0 (by refine cc _ ?_ <| cc _ ?_ c0 <;> first | omega | (simp; omega) | (simp; done) | (intros; simp_all; omega) | (intros; simp_all; done)) ?_
      refine A3 (q := (decide (a1 = [])) || (decide (b1 = []))) (by kernel_rfl) (fun c5 => ?_) (fun c5 => ?_)
      ·try simp only [Bool.and_eq_true, Bool.or_eq_true, Bool.and_eq_false_iff, Bool.or_eq_false_iff, Bool.not_eq_true', Bool.not_eq_false', decide_eq_true_eq, decide_eq_false_iff_not] at c5
       refine Ad [] [4] [] (hk 2 Pb (Og (Ay a1 94) (Ay b1 94) 1 (by omega)) <| hk0) v0 c0 ?_
       refine Af ?_
       refine RK wR [(.int .i64 (Eb (Ay a1 94) (Ay b1 94) 1))] ?_
       refine Same.of_eq ?_
       simp only [Ah]
       try simp only [List.take_length, List.drop_zero] at *
       rw [fl0_4, e0]
       congr 1
       symm
       unfold Cz
       rw [if_neg (by simp [c1.1, c1.2]), if_pos c3, if_neg (by rcases c4 with h | h <;> simp [h]), if_pos c5]
      ·try simp only [Bool.and_eq_true, Bool.or_eq_true, Bool.and_eq_false_iff, Bool.or_eq_false_iff, Bool.not_eq_true', Bool.not_eq_false', decide_eq_true_eq, decide_eq_false_iff_not] at c5
       refine Ag ?_
       refine Ad [] [4] [] (hk 2 Pb (Og (Ay a1 94) (Ay b1 94) (-1) (by omega)) <| hk0) v0 c0 ?_
       refine Af ?_
       refine RK wR [(.int .i64 (Eb (Ay a1 94) (Ay b1 94) (-1)))] ?_
       refine Same.of_eq ?_
       simp only [Ah]
       try simp only [List.take_length, List.drop_zero] at *
       rw [fl0_4, e0]
       congr 1
       symm
       unfold Cz
       rw [if_neg (by simp [c1.1, c1.2]), if_pos c3, if_neg (by rcases c4 with h | h <;> simp [h]), if_neg (by simp [c5.1, c5.2])]
    ·try simp only [Bool.and_eq_true, Bool.or_eq_true, Bool.and_eq_false_iff, Bool.or_eq_false_iff, Bool.not_eq_true', Bool.not_eq_false', decide_eq_true_eq, decide_eq_false_iff_not] at c3
     refine Ag ?_
     refine Ab ?_
     refine Ad (CS := [(4, ((!(decide (a1 = []))) = true → (!(decide (a1 = []))) = true)), (5, ((decide (a1 = [])) = false → (!(decide (a1 = []))) = true))]) [84, 85] [2, 3, 5, 7, 86] [] hk0 v0 (by refine cc _ ?_ <| cc _ ?_ c0 <;> first | omega | (simp; omega) | (simp; done) | (intros; simp_all; omega) | (intros; simp_all; done)) ?_
     refine A3 (q := (decide (a1 = [])) || (decide (b1 = []))) (by kernel_rfl) (fun c6 => ?_) (fun c6 => ?_)
     ·try simp only [Bool.and_eq_true, Bool.or_eq_true, Bool.and_eq_false_iff, Bool.or_eq_false_iff, Bool.not_eq_true', Bool.not_eq_false', decide_eq_true_eq, decide_eq_false_iff_not] at c6
      refine Ad [] [4] [] (hk 4 Sp (S7 (a1.length : Int) (b1.length : Int)) <| hk0) v0 c0 ?_
      refine Af ?_
      refine RK wR [(.int .i64 (Cg (a1.length : Int) (b1.length : Int)))] ?_
      refine Same.of_eq ?_
      simp only [Ah]
      try simp only [List.take_length, List.drop_zero] at *
      rw [fl0_4, e0]
      congr 1
      symm
      unfold Cz
      rw [if_neg (by simp [c1.1, c1.2]), if_neg (by simp [c3.1, c3.2]), if_pos c6]
     ·try simp only [Bool.and_eq_true, Bool.or_eq_true, Bool.and_eq_false_iff, Bool.or_eq_false_iff, Bool.not_eq_true', Bool.not_eq_false', decide_eq_true_eq, decide_eq_false_iff_not] at c6
      have hpa := List.length_pos_iff.2 c6.1
      have hpb := List.length_pos_iff.2 c6.2
      refine Ag ?_
      refine Ab ?_
      refine Ad [] [2, 3, 5, 7, 94] [] (hk 2 Hn (H5 (Ae a1 0)) <| hk0) v0 (cc 1 (p := (0 ≤ (0 : Int) ∧ 0 < a1.length)) (by first | omega | (simp; omega) | (simp; done) | (intros; simp_all; omega) | (intros; simp_all; done)) <| c0) ?_
      refine A3 (q := Aj (Ae a1 0)) (by kernel_rfl) (fun c7 => ?_) (fun c7 => ?_)
      ·try simp only [Bool.and_eq_true, Bool.or_eq_true, Bool.and_eq_false_iff, Bool.or_eq_false_iff, Bool.not_eq_true', Bool.not_eq_false', decide_eq_true_eq, decide_eq_false_iff_not] at c7
       refine Cn [] [2, 3, 5, 7, 12, 13] [] (hk 1 (al := [(.str a1), (.fn 148 [] [])]) Gx ((Hq a1 (.fn 148 [] []) Aj (by omega) (fun c => FunV.of (by exact Hn) (H5 c))).of_args (ImpL.cons Imp.refl (ImpL.cons (Imp.clo rfl) ImpL.nil))) <| hk 3 (al := [(.str b1), (.fn 148 [] [])]) Gx ((Hq b1 (.fn 148 [] []) Aj (by omega) (fun c => FunV.of (by exact Hn) (H5 c))).of_args (ImpL.cons Imp.refl (ImpL.cons (Imp.clo rfl) ImpL.nil))) <| hk0) v0 c0 ?_
       refine Ab ?_
       refine Aa [] [2, 3, 5, 7, 12, 13, 100] ?_
       refine A2 (p := (Ak Aj b1 : Int) = 0) (by kernel_rfl) (fun c8 => ?_) (fun c8 => ?_)
       ·refine Aa [] [4] ?_
        refine Af ?_
        refine RK wR [(.int .i64 1)] ?_
        refine Same.of_eq ?_
        simp only [Ah]
        try simp only [List.take_length, List.drop_zero] at *
        rw [fl0_4, e0]
        congr 1
        symm
        unfold Cz
        rw [if_neg (by simp [c1.1, c1.2]), if_neg (by simp [c3.1, c3.2]), if_neg (by simp [c6.1, c6.2]), if_pos c7, if_pos (by omega)]
       ·refine Ag ?_
        refine Ab ?_
        refine Cn (CS := [(2, (0 ≤ (0 : Int) ∧ (0 : Int) ≤ (Ak Aj a1 : Int) ∧ (Ak Aj a1 : Int) ≤ (a1.length : Int))), (5, (0 ≤ (0 : Int) ∧ (0 : Int) ≤ (Ak Aj b1 : Int) ∧ (Ak Aj b1 : Int) ≤ (b1.length : Int)))]) [] [2, 3, 5, 7, 12, 13, 14] [] (hk 6 Sq (Ri ((a1.take (Ak Aj a1)).drop 0) ((b1.take (Ak Aj b1)).drop 0)) <| hk0) v0 (by refine cc _ ?_ <| cc _ ?_ c0 <;> first | omega | (simp; omega) | (simp; done) | (intros; simp_all; omega) | (intros; simp_all; done)) ?_
        refine Aa [] [2, 3, 5, 7, 12, 13, 14, 109] ?_
        refine Cm (p := (Cf ((a1.take (Ak Aj a1)).drop 0) ((b1.take (Ak Aj b1)).drop 0)) = 0) (by kernel_rfl) (fun c9 => ?_) (fun c9 => ?_)
        ·refine Aa [] [4] ?_
         refine Af ?_
         refine RK wR [(.int .i64 (Cf ((a1.take (Ak Aj a1)).drop 0) ((b1.take (Ak Aj b1)).drop 0)))] ?_
         refine Same.of_eq ?_
         simp only [Ah]
         try simp only [List.take_length, List.drop_zero] at *
         rw [fl0_4, e0]
         congr 1
         symm
         unfold Cz
         rw [if_neg (by simp [c1.1, c1.2]), if_neg (by simp [c3.1, c3.2]), if_neg (by simp [c6.1, c6.2]), if_pos c7, if_neg (by omega), if_pos c9]
        ·refine Ag ?_
         refine Cn (CS := [(2, (0 ≤ (Ak Aj a1 : Int) ∧ (Ak Aj a1 : Int) ≤ (a1.length : Int) ∧ (a1.length : Int) ≤ (a1.length : Int))), (5, (0 ≤ (Ak Aj b1 : Int) ∧ (Ak Aj b1 : Int) ≤ (b1.length : Int) ∧ (b1.length : Int) ≤ (b1.length : Int)))]) [] [2, 3, 5, 7] [] hk0 v0 (by refine cc _ ?_ <| cc _ ?_ c0 <;> first | omega | (simp; omega) | (simp; done) | (intros; simp_all; omega) | (intros; simp_all; done)) ?_
         refine Lm ⟨rfl, _, (by kernel_rfl : gcS _ _ _ = some ⟨[(2, (.ptr 0 0)), (3, (.ptr 1 0)), (5, (.fn 197 [] [(.ptr 0 0), (.ptr 1 0)])), (7, (.fn 199 [] [(.fp (.agg [(.fn 198 [] [])]))]))], [(0, (.row [(.str ((a1.take a1.length).drop (Ak Aj a1)))] 9)), (1, (.row [(.str ((b1.take b1.length).drop (Ak Aj b1)))] 9))], 3⟩), _, ?_, k, ((a1.take a1.length).drop (Ak Aj a1)), ((b1.take b1.length).drop (Ak Aj b1)), ?_, ?_, ?_, ?_, (by kernel_rfl), rfl⟩
         all_goals (try simp only [List.take_length, List.drop_zero, List.length_drop] at *)
         have h3 := Mv (p := Aj) (s := a1) (by omega) (by simpa using c7)
         ·omega
         ·omega
         ·omega
         ·omega
         ·rw [fl0_4, e0]
          unfold Cz
          rw [if_neg (by simp [c1.1, c1.2]), if_neg (by simp [c3.1, c3.2]), if_neg (by simp [c6.1, c6.2]), if_pos c7, if_neg (by omega), if_neg (fun q => q c9)]
      ·try simp only [Bool.and_eq_true, Bool.or_eq_true, Bool.and_eq_false_iff, Bool.or_eq_false_iff, Bool.not_eq_true', Bool.not_eq_false', decide_eq_true_eq, decide_eq_false_iff_not] at c7
       refine Ag ?_
       refine Cn [] [2, 3, 5, 7, 15, 16] [] (hk 1 (al := [(.str a1), (.fn 149 [] [])]) Gx ((Hq a1 (.fn 149 [] []) Bp (by omega) (fun c => FunV.of (by exact Lc) (Mf c))).of_args (ImpL.cons Imp.refl (ImpL.cons (Imp.clo rfl) ImpL.nil))) <| hk 3 (al := [(.str b1), (.fn 149 [] [])]) Gx ((Hq b1 (.fn 149 [] []) Bp (by omega) (fun c => FunV.of (by exact Lc) (Mf c))).of_args (ImpL.cons Imp.refl (ImpL.cons (Imp.clo rfl) ImpL.nil))) <| hk0) v0 c0 ?_
       refine Ab ?_
       refine Aa [] [2, 3, 5, 7, 15, 16, 122] ?_
       refine A2 (p := (Ak Bp b1 : Int) = 0) (by kernel_rfl) (fun c10 => ?_) (fun c10 => ?_)
       ·refine Aa [] [4] ?_
        refine Af ?_
        refine RK wR [(.int .i64 (-1))] ?_
        refine Same.of_eq ?_
        simp only [Ah]
        try simp only [List.take_length, List.drop_zero] at *
        rw [fl0_4, e0]
        congr 1
        symm
        unfold Cz
        rw [if_neg (by simp [c1.1, c1.2]), if_neg (by simp [c3.1, c3.2]), if_neg (by simp [c6.1, c6.2]), if_neg (by simp [c7]), if_pos (by omega)]
       ·refine Ag ?_
        refine Ab ?_
        refine Cn (CS := [(2, (0 ≤ (0 : Int) ∧ (0 : Int) ≤ (Ak Bp a1 : Int) ∧ (Ak Bp a1 : Int) ≤ (a1.length : Int))), (5, (0 ≤ (0 : Int) ∧ (0 : Int) ≤ (Ak Bp b1 : Int) ∧ (Ak Bp b1 : Int) ≤ (b1.length : Int)))]) [] [2, 3, 5, 7, 15, 16, 17] [] (hk 6 Z0 (Q2t ((a1.take (Ak Bp a1)).drop 0) ((b1.take (Ak Bp b1)).drop 0)) <| hk0) v0 (by refine cc _ ?_ <| cc _ ?_ c0 <;> first | omega | (simp; omega) | (simp; done) | (intros; simp_all; omega) | (intros; simp_all; done)) ?_
        refine Aa [] [2, 3, 5, 7, 15, 16, 17, 131] ?_
        refine Cm (p := (Lib.compareBytes ((a1.take (Ak Bp a1)).drop 0) ((b1.take (Ak Bp b1)).drop 0)) = 0) (by kernel_rfl) (fun c11 => ?_) (fun c11 => ?_)
        ·refine Aa [] [4] ?_
         refine Af ?_
         refine RK wR [(.int .i64 (Lib.compareBytes ((a1.take (Ak Bp a1)).drop 0) ((b1.take (Ak Bp b1)).drop 0)))] ?_
         refine Same.of_eq ?_
         simp only [Ah]
         try simp only [List.take_length, List.drop_zero] at *
         rw [fl0_4, e0]
         congr 1
         symm
         unfold Cz
         rw [if_neg (by simp [c1.1, c1.2]), if_neg (by simp [c3.1, c3.2]), if_neg (by simp [c6.1, c6.2]), if_neg (by simp [c7]), if_neg (by omega), if_pos c11]
        ·refine Ag ?_
         refine Cn (CS := [(2, (0 ≤ (Ak Bp a1 : Int) ∧ (Ak Bp a1 : Int) ≤ (a1.length : Int) ∧ (a1.length : Int) ≤ (a1.length : Int))), (5, (0 ≤ (Ak Bp b1 : Int) ∧ (Ak Bp b1 : Int) ≤ (b1.length : Int) ∧ (b1.length : Int) ≤ (b1.length : Int)))]) [] [2, 3, 5, 7] [] hk0 v0 (by refine cc _ ?_ <| cc _ ?_ c0 <;> first | omega | (simp; omega) | (simp; done) | (intros; simp_all; omega) | (intros; simp_all; done)) ?_
         refine Lm ⟨rfl, _, (by kernel_rfl : gcS _ _ _ = some ⟨[(2, (.ptr 0 0)), (3, (.ptr 1 0)), (5, (.fn 197 [] [(.ptr 0 0), (.ptr 1 0)])), (7, (.fn 199 [] [(.fp (.agg [(.fn 198 [] [])]))]))], [(0, (.row [(.str ((a1.take a1.length).drop (Ak Bp a1)))] 9)), (1, (.row [(.str ((b1.take b1.length).drop (Ak Bp b1)))] 9))], 3⟩), _, ?_, k, ((a1.take a1.length).drop (Ak Bp a1)), ((b1.take b1.length).drop (Ak Bp b1)), ?_, ?_, ?_, ?_, (by kernel_rfl), rfl⟩
         all_goals (try simp only [List.take_length, List.drop_zero, List.length_drop] at *)
         have hml : Bp (Ae a1 0) = true := by
          rcases hma with q | q
          ·exact absurd q c6.1
          ·exact Xk q (by omega) (by simp_all) (by simp_all) (by simp_all)
         have h3 := Mv (p := Bp) (s := a1) (by omega) hml
         ·omega
         ·omega
         ·omega
         ·omega
         ·rw [fl0_4, e0]
          unfold Cz
          rw [if_neg (by simp [c1.1, c1.2]), if_neg (by simp [c3.1, c3.2]), if_neg (by simp [c6.1, c6.2]), if_neg (by simp [c7]), if_neg (by omega), if_neg (fun q => q c11)]
end Sv
end Go.Proofs.YtlfjokcbkopfeaaGreatDoor
end
section
namespace Go.Proofs.YtlfjokcbkopfeaaGreatDoor
open Go Go.RowKit
namespace Sv
attribute [local irreducible] SW SO Bg
theorem Q0a : Am Tryz.prog 131 := Av Tryz.func131 (by kernel_rfl) rfl
def Gy (a b : List UInt8) : Int := C2 (a.length + b.length + 1) a b
def Fo (a b : List UInt8) : Int := D9 (a.length + b.length + 1) a b
theorem Q0o (a b : List UInt8) (ha : a.length ≤ 4194304) (hb : b.length ≤ 4194304) : FnV Tryz.prog 164 [.str a, .str b] (.int .i64 (Gy a b)) := X1x _ a b (by omega) ha hb
theorem U4 (a b : List UInt8) (ha : a.length ≤ 4194304) (hb : b.length ≤ 4194304) : FnV Tryz.prog 166 [.str a, .str b] (.int .i64 (Fo a b)) := Q40 _ a b (by omega) ha hb
theorem Ec {a : List UInt8} (h : a.length ≤ 4194304) : (orS a [48]).length ≤ 4194304 := by unfold orS; split <;> simp [h]
def Bn (k : Int) (a b : (List UInt8 × List UInt8 × List UInt8)) : Int × Int :=
 if k = 2 then (orI (Cf a.1 b.1) (Gy a.2.1 b.2.1), Gy (orS a.2.2 [48]) (orS b.2.2 [48]))
 else if a.2.2 = [] ∨ b.2.2 = [] then (orI (Cf a.1 b.1) (Fo a.2.1 b.2.1), Eb (!decide (a.2.2 = [])) (!decide (b.2.2 = [])) 1)
 else (orI (Cf a.1 b.1) (Fo a.2.1 b.2.1), Fo a.2.2 b.2.2)
def Jn (a b : List UInt8) (c d : Int) : Int := if c = 0 ∧ ¬ a = [] ∧ ¬ b = [] then d else c
def Fw (c op o : Int) : Bool :=
 if c < 0 then !decide (Go.bits .and .i64 op 4 = 0) || !decide (Go.bits .and .i64 o 1 = 0)
 else if 0 < c then !decide (Go.bits .and .i64 op 1 = 0) || !decide (Go.bits .and .i64 o 4 = 0)
 else !decide (Go.bits .and .i64 op o = 0)
def Fv (k : Int) (a b : List UInt8) : Int := Jn (Au k a b).1.2.2 (Au k a b).2.1.2.2 (Bn k (Au k a b).1 (Au k a b).2.1).1 (Bn k (Au k a b).1 (Au k a b).2.1).2
def A6 (k op : Int) (a : List UInt8) (o : Int) (b : List UInt8) : Bool × Int :=
 if (¬ k = 1 ∧ ¬ k = 2) ∨ op < 0 ∨ 7 < op ∨ o < 0 ∨ 7 < o then (false, 1)
 else if op = 0 ∨ o = 0 then (true, 0)
 else if ¬ (Au k a b).2.2 = 0 then (false, (Au k a b).2.2)
 else (Fw (Fv k a b) op o, 0)
theorem Y6 (l : List UInt8) : (B7 l).1.length ≤ l.length ∧ (B7 l).2.1.length ≤ l.length ∧ (B7 l).2.2.length ≤ l.length := by
 unfold B7
 split
 ·unfold Mo
  refine ⟨?_, ?_, ?_⟩
  ·show (if _ then _ else _ : List UInt8).length ≤ _
   split <;> simp; omega
  ·show (if _ then _ else _ : List UInt8).length ≤ _
   split <;> (try rw [List.length_take]) <;> split <;> simp <;> omega
  ·show (if _ then _ else _ : List UInt8).length ≤ _
   split <;> (try rw [List.length_drop]) <;> (try split) <;> simp <;> omega
 ·simp
theorem Pm (k : Int) (a b : List UInt8) : (Au k a b).1.1.length ≤ a.length ∧ (Au k a b).1.2.1.length ≤ a.length ∧ (Au k a b).1.2.2.length ≤ a.length ∧ (Au k a b).2.1.1.length ≤ b.length ∧ (Au k a b).2.1.2.1.length ≤ b.length ∧ (Au k a b).2.1.2.2.length ≤ b.length := by
 have h1 := Y6 a
 have h2 := Y6 b
 unfold Au
 split
 ·simp
 ·split <;> simp <;> omega
set_option maxHeartbeats 1000000 in
set_option maxRecDepth 100000 in
theorem V4 (k : Int) (a b : (List UInt8 × List UInt8 × List UInt8)) (ha : a.1.length ≤ 4194304 ∧ a.2.1.length ≤ 4194304 ∧ a.2.2.length ≤ 4194304) (hb : b.1.length ≤ 4194304 ∧ b.2.1.length ≤ 4194304 ∧ b.2.2.length ≤ 4194304) :
  FnV Tryz.prog 131 [(.int .i64 k), (.agg [(.str a.1), (.str a.2.1), (.str a.2.2)]), (.agg [(.str b.1), (.str b.2.1), (.str b.2.2)])] (.tup [.int .i64 (Bn k a b).1, .int .i64 (Bn k a b).2]) := by
 refine A1 [.tmp 6, .tmp 7] Tryz.func131 rfl Tryz.ntmps131 rfl rfl (fun B F hF => ?_)
 refine Ad [] [0, 4, 5] [(1, 4), (2, 5)] hk0 v0 c0 ?_
 refine Ad [] [0, 4, 5, 8] [] (hk 4 Sq (Ri a.1 b.1) <| hk0) v0 c0 ?_
 refine Ab ?_
 refine Aa [] [4, 5, 8, 15] ?_
 refine A2 (p := k = 2) (by kernel_rfl) (fun c1 => ?_) (fun c1 => ?_)
 ·refine Cn [] [6, 7] [(7, 22), (11, 26), (15, 30)] (hk 5 Z7 (Q0o a.2.1 b.2.1 (by omega) (by omega)) <| hk 7 Pc (Oh (Cf a.1 b.1) (Gy a.2.1 b.2.1)) <| hk 11 Z6 (Wq a.2.2 [48]) <| hk 15 Z6 (Wq b.2.2 [48]) <| hk 16 Z7 (Q0o (orS a.2.2 [48]) (orS b.2.2 [48]) (by exact Ec (by first | exact ha.2.2 | exact hb.2.2)) (by exact Ec (by first | exact ha.2.2 | exact hb.2.2))) <| hk0) (vk 7 22 (b := (Ap [Cf a.1 b.1, Gy a.2.1 b.2.1])) (Imp.list (f := AV.int .i64) rfl) <| vk 11 26 (b := (Ct ([a.2.2, [48]]))) (Imp.list (f := AV.str) rfl) <| vk 15 30 (b := (Ct ([b.2.2, [48]]))) (Imp.list (f := AV.str) rfl) <| v0) c0 ?_
  refine Af ?_
  refine RK wR [(.int .i64 (orI (Cf a.1 b.1) (Gy a.2.1 b.2.1))), (.int .i64 (Gy (orS a.2.2 [48]) (orS b.2.2 [48])))] ?_
  refine Same.of_eq ?_
  simp only [Ah]
  unfold Bn
  rw [if_pos c1]
 ·refine Ag ?_
  refine Ad [] [4, 5, 8] [(7, 39)] (hk 5 Z5 (U4 a.2.1 b.2.1 (by omega) (by omega)) <| hk 7 Pc (Oh (Cf a.1 b.1) (Fo a.2.1 b.2.1)) <| hk0) (vk 7 39 (b := (Ap [Cf a.1 b.1, Fo a.2.1 b.2.1])) (Imp.list (f := AV.int .i64) rfl) <| v0) c0 ?_
  refine Ab ?_
  refine Ad (CS := [(5, ((!(decide (a.2.2 = []))) = true → (!(decide (a.2.2 = []))) = true)), (6, ((!(decide (a.2.2 = []))) = true → (!(decide (a.2.2 = []))) = true)), (7, ((decide (a.2.2 = [])) = false → (!(decide (a.2.2 = []))) = true))]) [45, 46, 47] [4, 5, 8, 48] [] hk0 v0 (by refine cc _ ?_ <| cc _ ?_ <| cc _ ?_ c0 <;> first | omega | (simp; omega) | (simp; done) | (intros; simp_all; omega) | (intros; simp_all; done)) ?_
  refine A3 (q := (decide (a.2.2 = [])) || (decide (b.2.2 = []))) (by kernel_rfl) (fun c2 => ?_) (fun c2 => ?_)
  ·try simp only [Bool.and_eq_true, Bool.or_eq_true, Bool.and_eq_false_iff, Bool.or_eq_false_iff, Bool.not_eq_true', Bool.not_eq_false', decide_eq_true_eq, decide_eq_false_iff_not] at c2
   refine Ad [] [6, 7] [] (hk 7 Pb (Og (!decide (a.2.2 = [])) (!decide (b.2.2 = [])) 1 (by omega)) <| hk0) v0 c0 ?_
   refine Af ?_
   refine RK wR [(.int .i64 (orI (Cf a.1 b.1) (Fo a.2.1 b.2.1))), (.int .i64 (Eb (!decide (a.2.2 = [])) (!decide (b.2.2 = [])) 1))] ?_
   refine Same.of_eq ?_
   simp only [Ah]
   unfold Bn
   rw [if_neg c1, if_pos c2]
  ·try simp only [Bool.and_eq_true, Bool.or_eq_true, Bool.and_eq_false_iff, Bool.or_eq_false_iff, Bool.not_eq_true', Bool.not_eq_false', decide_eq_true_eq, decide_eq_false_iff_not] at c2
   refine Ag ?_
   refine Ad [] [6, 7] [] (hk 5 Z5 (U4 a.2.2 b.2.2 (by omega) (by omega)) <| hk0) v0 c0 ?_
   refine Af ?_
   refine RK wR [(.int .i64 (orI (Cf a.1 b.1) (Fo a.2.1 b.2.1))), (.int .i64 (Fo a.2.2 b.2.2))] ?_
   refine Same.of_eq ?_
   simp only [Ah]
   unfold Bn
   rw [if_neg c1, if_neg (by simp [c2.1, c2.2])]
set_option maxHeartbeats 1000000 in
set_option maxRecDepth 100000 in
theorem Q7u (k op : Int) (a : List UInt8) (o : Int) (b : List UInt8) (ha : a.length ≤ 4194304) (hb : b.length ≤ 4194304) :
  FnV Tryz.prog 159 [(.int .i64 k), (.int .i64 op), (.str a), (.int .i64 o), (.str b)] (.tup [.bool (A6 k op a o b).1, .int .i64 (A6 k op a o b).2]) := by
 have hbl := Pm k a b
 refine A1 [.tmp 10, .tmp 11] Tryz.func159 rfl Tryz.ntmps159 rfl rfl (fun B F hF => ?_)
 refine Aa [] [0, 1, 2, 3, 4] ?_
 refine Ab ?_
 refine A0 ?_
 refine Ad (CS := [(4, ((!decide (k = 1)) = true → (!decide (k = 1)) = true)), (5, ((!decide (k = 1)) = true → (!decide (k = 1)) = true)), (8, ((!((!decide (k = 1)) && (!decide (k = 2)))) = true → (!((!decide (k = 1)) && (!decide (k = 2)))) = true)), (9, (((!decide (k = 1)) && (!decide (k = 2))) = false → (!((!decide (k = 1)) && (!decide (k = 2)))) = true)), (12, ((!(((!decide (k = 1)) && (!decide (k = 2))) || (decide (op < 0)))) = true → (!(((!decide (k = 1)) && (!decide (k = 2))) || (decide (op < 0)))) = true)), (13, ((((!decide (k = 1)) && (!decide (k = 2))) || (decide (op < 0))) = false → (!(((!decide (k = 1)) && (!decide (k = 2))) || (decide (op < 0)))) = true)), (16, ((!((((!decide (k = 1)) && (!decide (k = 2))) || (decide (op < 0))) || (decide (7 < op)))) = true → (!((((!decide (k = 1)) && (!decide (k = 2))) || (decide (op < 0))) || (decide (7 < op)))) = true)), (17, (((((!decide (k = 1)) && (!decide (k = 2))) || (decide (op < 0))) || (decide (7 < op))) = false → (!((((!decide (k = 1)) && (!decide (k = 2))) || (decide (op < 0))) || (decide (7 < op)))) = true)), (20, ((!(((((!decide (k = 1)) && (!decide (k = 2))) || (decide (op < 0))) || (decide (7 < op))) || (decide (o < 0)))) = true → (!(((((!decide (k = 1)) && (!decide (k = 2))) || (decide (op < 0))) || (decide (7 < op))) || (decide (o < 0)))) = true)), (21, ((((((!decide (k = 1)) && (!decide (k = 2))) || (decide (op < 0))) || (decide (7 < op))) || (decide (o < 0))) = false → (!(((((!decide (k = 1)) && (!decide (k = 2))) || (decide (op < 0))) || (decide (7 < op))) || (decide (o < 0)))) = true))]) [21, 22, 25, 26, 29, 30, 33, 34, 37, 38] [0, 1, 2, 3, 4, 17] [] hk0 v0 (by refine cc _ ?_ <| cc _ ?_ <| cc _ ?_ <| cc _ ?_ <| cc _ ?_ <| cc _ ?_ <| cc _ ?_ <| cc _ ?_ <| cc _ ?_ <| cc _ ?_ c0 <;> first | omega | (simp; omega) | (simp; done) | (intros; simp_all; omega) | (intros; simp_all; done)) ?_
 refine A3 (q := (((((!decide (k = 1)) && (!decide (k = 2))) || (decide (op < 0))) || (decide (7 < op))) || (decide (o < 0))) || (decide (7 < o))) (by kernel_rfl) (fun c1 => ?_) (fun c1 => ?_)
 ·try simp only [Bool.and_eq_true, Bool.or_eq_true, Bool.and_eq_false_iff, Bool.or_eq_false_iff, Bool.not_eq_true', Bool.not_eq_false', decide_eq_true_eq, decide_eq_false_iff_not] at c1
  refine Aa [] [10, 11] ?_
  refine Af ?_
  refine RK wR [(.bool false), (.int .i64 1)] ?_
  refine Same.of_eq ?_
  simp only [Ah]
  rw [show A6 k op a o b = (false, 1) from by unfold A6; rw [if_pos (by omega)]]
 ·try simp only [Bool.and_eq_true, Bool.or_eq_true, Bool.and_eq_false_iff, Bool.or_eq_false_iff, Bool.not_eq_true', Bool.not_eq_false', decide_eq_true_eq, decide_eq_false_iff_not] at c1
  refine Ad (CS := [(4, ((!(decide (op = 0))) = true → (!(decide (op = 0))) = true)), (5, ((decide (op = 0)) = false → (!(decide (op = 0))) = true))]) [44, 45] [0, 1, 2, 3, 4, 40] [] hk0 v0 (by refine cc _ ?_ <| cc _ ?_ c0 <;> first | omega | (simp; omega) | (simp; done) | (intros; simp_all; omega) | (intros; simp_all; done)) ?_
  refine A3 (q := (decide (op = 0)) || (decide (o = 0))) (by kernel_rfl) (fun c2 => ?_) (fun c2 => ?_)
  ·try simp only [Bool.and_eq_true, Bool.or_eq_true, Bool.and_eq_false_iff, Bool.or_eq_false_iff, Bool.not_eq_true', Bool.not_eq_false', decide_eq_true_eq, decide_eq_false_iff_not] at c2
   refine Aa [] [10, 11] ?_
   refine Af ?_
   refine RK wR [(.bool true), (.int .i64 0)] ?_
   refine Same.of_eq ?_
   simp only [Ah]
   rw [show A6 k op a o b = (true, 0) from by unfold A6; rw [if_neg (by omega), if_pos (by omega)]]
  ·try simp only [Bool.and_eq_true, Bool.or_eq_true, Bool.and_eq_false_iff, Bool.or_eq_false_iff, Bool.not_eq_true', Bool.not_eq_false', decide_eq_true_eq, decide_eq_false_iff_not] at c2
   refine Ag ?_
   refine Ad [] [0, 1, 3, 12, 13, 14] [(11, 12), (12, 13)] (hk 3 Q0b (Q02 k a b (by omega) (by omega)) <| hk0) v0 c0 ?_
   refine Ab ?_
   refine Aa [] [0, 1, 3, 12, 13, 14, 56] ?_
   refine Cm (p := ((Au k a b).2.2) = 0) (by kernel_rfl) (fun c3 => ?_) (fun c3 => ?_)
   ·refine Aa [] [10, 11] ?_
    refine Af ?_
    refine RK wR [(.bool false), (.int .i64 ((Au k a b).2.2))] ?_
    refine Same.of_eq ?_
    simp only [Ah]
    rw [show A6 k op a o b = (false, (Au k a b).2.2) from by unfold A6; rw [if_neg (by omega), if_neg (by omega), if_pos (by omega)]]
   ·refine Ag ?_
    refine Ad [] [1, 3, 12, 13, 15, 16] [] (hk 3 Q0a (V4 k (Au k a b).1 (Au k a b).2.1 ⟨by omega, by omega, by omega⟩ ⟨by omega, by omega, by omega⟩) <| hk0) v0 c0 ?_
    refine Da (fun y => ∃ (c : Int), c = Jn (Au k a b).1.2.2 (Au k a b).2.1.2.2 (Bn k (Au k a b).1 (Au k a b).2.1).1 (Bn k (Au k a b).1 (Au k a b).2.1).2 ∧ y = ⟨[(1, (.int .i64 op)), (3, (.int .i64 o)), (15, (.int .i64 c))], [], 2⟩) [1, 3, 15] 2 (by omega) ?_ ?_
    ·refine Ad (CS := [(4, ((decide (((Bn k (Au k a b).1 (Au k a b).2.1).1) = 0)) = true → (decide (((Bn k (Au k a b).1 (Au k a b).2.1).1) = 0)) = true)), (5, ((decide (((Bn k (Au k a b).1 (Au k a b).2.1).1) = 0)) = true → (decide (((Bn k (Au k a b).1 (Au k a b).2.1).1) = 0)) = true)), (6, ((decide (((Bn k (Au k a b).1 (Au k a b).2.1).1) = 0)) = true → (decide (((Bn k (Au k a b).1 (Au k a b).2.1).1) = 0)) = true)), (9, (((decide (((Bn k (Au k a b).1 (Au k a b).2.1).1) = 0)) && (!decide (((Au k a b).1).2.2 = []))) = true → ((decide (((Bn k (Au k a b).1 (Au k a b).2.1).1) = 0)) && (!decide (((Au k a b).1).2.2 = []))) = true)), (10, (((decide (((Bn k (Au k a b).1 (Au k a b).2.1).1) = 0)) && (!decide (((Au k a b).1).2.2 = []))) = true → ((decide (((Bn k (Au k a b).1 (Au k a b).2.1).1) = 0)) && (!decide (((Au k a b).1).2.2 = []))) = true)), (11, (((decide (((Bn k (Au k a b).1 (Au k a b).2.1).1) = 0)) && (!decide (((Au k a b).1).2.2 = []))) = true → ((decide (((Bn k (Au k a b).1 (Au k a b).2.1).1) = 0)) && (!decide (((Au k a b).1).2.2 = []))) = true))]) [68, 69, 70, 73, 74, 75] [1, 3, 15, 16, 76] [] hk0 v0 (by refine cc _ ?_ <| cc _ ?_ <| cc _ ?_ <| cc _ ?_ <| cc _ ?_ <| cc _ ?_ c0 <;> first | omega | (simp; omega) | (simp; done) | (intros; simp_all; omega) | (intros; simp_all; done)) ?_
     refine A3 (q := ((decide (((Bn k (Au k a b).1 (Au k a b).2.1).1) = 0)) && (!decide (((Au k a b).1).2.2 = []))) && (!decide (((Au k a b).2.1).2.2 = []))) (by kernel_rfl) (fun c4 => ?_) (fun c4 => ?_)
     ·try simp only [Bool.and_eq_true, Bool.or_eq_true, Bool.and_eq_false_iff, Bool.or_eq_false_iff, Bool.not_eq_true', Bool.not_eq_false', decide_eq_true_eq, decide_eq_false_iff_not] at c4
      refine Ar ?_
      refine Ep [] [1, 3, 15] ?_
      refine ⟨by kernel_rfl, ((Bn k (Au k a b).1 (Au k a b).2.1).2), ?_, (by kernel_rfl)⟩
      unfold Jn
      rw [if_pos (by simp_all)]
     ·try simp only [Bool.and_eq_true, Bool.or_eq_true, Bool.and_eq_false_iff, Bool.or_eq_false_iff, Bool.not_eq_true', Bool.not_eq_false', decide_eq_true_eq, decide_eq_false_iff_not] at c4
      refine Ag ?_
      refine ⟨by kernel_rfl, ((Bn k (Au k a b).1 (Au k a b).2.1).1), ?_, (by kernel_rfl)⟩
      unfold Jn
      rw [if_neg (fun q => by simp [q.1, q.2.1, q.2.2] at c4)]
    ·rintro y1 ⟨c, jc, rfl⟩
     refine Ab ?_
     refine A0 ?_
     refine Aa [] [1, 3, 15, 78] ?_
     refine A2 (p := c < 0) (by kernel_rfl) (fun c5 => ?_) (fun c5 => ?_)
     ·refine Ab ?_
      refine Ar ?_
      refine Bv 1 0 [] [3, 81] [] hk0 v0 c0 ?_
      refine M9 (s' := [(3, (.int .i64 o)), (81, (.int .i64 op)), (82, (.int .i64 (Go.bits .and .i64 op 4)))]) (.int .i64 (Go.bits .and .i64 op 4)) (by kernel_rfl) (Mz (.inl (by kernel_rfl)) (.inl (by kernel_rfl))) (by kernel_rfl) ?_
      refine Bv 3 2 [85] [84, 85] [] hk0 v0 c0 ?_
      refine Q2f (s' := [(84, (.bool (!decide ((Go.bits .and .i64 op 4) = 0)))), (85, (.cond (!(!decide ((Go.bits .and .i64 op 4) = 0))) (.int .i64 o))), (86, (.cond (!(!decide ((Go.bits .and .i64 op 4) = 0))) (.int .i64 (Go.bits .and .i64 o 1))))]) (q := !(!decide ((Go.bits .and .i64 op 4) = 0))) (.int .i64 (Go.bits .and .i64 o 1)) (by kernel_rfl) (fun cg => (Mz (.inr ⟨!(!decide ((Go.bits .and .i64 op 4) = 0)), by kernel_rfl, by first | exact cg | simp_all⟩) (.inl (by kernel_rfl)))) (by kernel_rfl) ?_
      refine Aw (CS := [(6, ((!(!decide ((Go.bits .and .i64 op 4) = 0))) = true → (!(!decide ((Go.bits .and .i64 op 4) = 0))) = true)), (7, ((!decide ((Go.bits .and .i64 op 4) = 0)) = false → (!(!decide ((Go.bits .and .i64 op 4) = 0))) = true))]) 6 [87] [10, 11] [] hk0 v0 (by refine cc _ ?_ <| cc _ ?_ c0 <;> first | omega | (simp; omega) | (simp; done) | (intros; simp_all; omega) | (intros; simp_all; done)) ?_
      refine Af ?_
      refine RK wR [(.bool ((!decide ((Go.bits .and .i64 op 4) = 0)) || (!decide ((Go.bits .and .i64 o 1) = 0)))), (.int .i64 0)] ?_
      refine Same.of_eq ?_
      simp only [Ah]
      rw [show A6 k op a o b = (Fw (Fv k a b) op o, 0) from by unfold A6; rw [if_neg (by omega), if_neg (by omega), if_neg (by omega)]]
      rw [show Fv k a b = c from jc.symm]
      unfold Fw
      rw [if_pos (by omega)]
     ·refine Aa [] [1, 3, 89] ?_
      refine A2 (p := 0 < c) (by kernel_rfl) (fun c6 => ?_) (fun c6 => ?_)
      ·refine Ab ?_
       refine Ar ?_
       refine Bv 1 0 [] [3, 92] [] hk0 v0 c0 ?_
       refine M9 (s' := [(3, (.int .i64 o)), (92, (.int .i64 op)), (93, (.int .i64 (Go.bits .and .i64 op 1)))]) (.int .i64 (Go.bits .and .i64 op 1)) (by kernel_rfl) (Mz (.inl (by kernel_rfl)) (.inl (by kernel_rfl))) (by kernel_rfl) ?_
       refine Bv 3 2 [96] [95, 96] [] hk0 v0 c0 ?_
       refine Q2f (s' := [(95, (.bool (!decide ((Go.bits .and .i64 op 1) = 0)))), (96, (.cond (!(!decide ((Go.bits .and .i64 op 1) = 0))) (.int .i64 o))), (97, (.cond (!(!decide ((Go.bits .and .i64 op 1) = 0))) (.int .i64 (Go.bits .and .i64 o 4))))]) (q := !(!decide ((Go.bits .and .i64 op 1) = 0))) (.int .i64 (Go.bits .and .i64 o 4)) (by kernel_rfl) (fun cg => (Mz (.inr ⟨!(!decide ((Go.bits .and .i64 op 1) = 0)), by kernel_rfl, by first | exact cg | simp_all⟩) (.inl (by kernel_rfl)))) (by kernel_rfl) ?_
       refine Aw (CS := [(6, ((!(!decide ((Go.bits .and .i64 op 1) = 0))) = true → (!(!decide ((Go.bits .and .i64 op 1) = 0))) = true)), (7, ((!decide ((Go.bits .and .i64 op 1) = 0)) = false → (!(!decide ((Go.bits .and .i64 op 1) = 0))) = true))]) 6 [98] [10, 11] [] hk0 v0 (by refine cc _ ?_ <| cc _ ?_ c0 <;> first | omega | (simp; omega) | (simp; done) | (intros; simp_all; omega) | (intros; simp_all; done)) ?_
       refine Af ?_
       refine RK wR [(.bool ((!decide ((Go.bits .and .i64 op 1) = 0)) || (!decide ((Go.bits .and .i64 o 4) = 0)))), (.int .i64 0)] ?_
       refine Same.of_eq ?_
       simp only [Ah]
       rw [show A6 k op a o b = (Fw (Fv k a b) op o, 0) from by unfold A6; rw [if_neg (by omega), if_neg (by omega), if_neg (by omega)]]
       rw [show Fv k a b = c from jc.symm]
       unfold Fw
       rw [if_neg (by omega), if_pos (by omega)]
      ·refine Ag ?_
       refine Ab ?_
       refine Ar ?_
       refine Bv 2 0 [] [100, 101] [] hk0 v0 c0 ?_
       refine M9 (s' := [(100, (.int .i64 op)), (101, (.int .i64 o)), (102, (.int .i64 (Go.bits .and .i64 op o)))]) (.int .i64 (Go.bits .and .i64 op o)) (by kernel_rfl) (Mz (.inl (by kernel_rfl)) (.inl (by kernel_rfl))) (by kernel_rfl) ?_
       refine Aw 3 [] [10, 11] [] hk0 v0 c0 ?_
       refine Af ?_
       refine RK wR [(.bool (!decide ((Go.bits .and .i64 op o) = 0))), (.int .i64 0)] ?_
       refine Same.of_eq ?_
       simp only [Ah]
       rw [show A6 k op a o b = (Fw (Fv k a b) op o, 0) from by unfold A6; rw [if_neg (by omega), if_neg (by omega), if_neg (by omega)]]
       rw [show Fv k a b = c from jc.symm]
       unfold Fw
       rw [if_neg (by omega), if_neg (by omega)]
theorem Q7v : P3 A6 := fun k op a o b ha hb => Q7u k op a o b ha hb
end Sv
end Go.Proofs.YtlfjokcbkopfeaaGreatDoor
end
section
namespace Go.Proofs.YtlfjokcbkopfeaaGreatDoor
open Go Go.RowKit
namespace Sv
attribute [local irreducible] SW SO Bg
theorem Sl : Am Tryz.prog 35 := Av Tryz.func35 (by kernel_rfl) rfl
theorem X0d : Am Tryz.prog 34 := Av Tryz.func34 (by kernel_rfl) rfl
theorem Kf {α : Type} [Inhabited α] {l : List α} {i : Nat} (h : i < l.length) : l.take (i + 1) = l.take i ++ [nth l i] := by
 rw [List.take_add_one, Rj h]; rfl
theorem N2 {α β : Type} [Inhabited α] {l : List α} {i m : Nat} (f : α → β) (h : i + m ≤ l.length) : (List.range m).map (fun k => f (nth l (i + k))) = ((l.drop i).take m).map f := by
 refine List.ext_getElem (by simp; omega) fun j h1 h2 => ?_
 simp only [List.length_map, List.length_range] at h1
 simp only [List.getElem_map, List.getElem_range, List.getElem_take, List.getElem_drop, nth, List.getElem?_eq_getElem (show i + j < l.length by omega), Option.getD_some]
theorem Q4 {α β : Type} [Inhabited α] {l : List α} {i : Nat} (f : α → β) (h : i ≤ l.length) : (List.range (l.length - i)).map (fun k => f (nth l (i + k))) = (l.drop i).map f := by
 rw [N2 f (by omega), List.take_of_length_le (by simp)]
def Cv (n : Int) : List Int → List Int
 | [] => [n]
 | x :: r => if x < n then x :: Cv n r else if x = n then x :: r else n :: x :: r
theorem Q54 {n : Int} {l : List Int} {i : Nat} (hi : i < l.length) (h : nth l i < n) : Cv n (l.drop i) = nth l i :: Cv n (l.drop (i + 1)) := by rw [Le hi, Cv, if_pos h]
theorem Q53 {n : Int} {l : List Int} {i : Nat} (hi : i < l.length) (h : ¬ nth l i < n) (h2 : nth l i = n) : Cv n (l.drop i) = l.drop i := by rw [Le hi, Cv, if_neg h, if_pos h2]
theorem Rb {n : Int} {l : List Int} {i : Nat} (h : i < l.length → ¬ nth l i < n ∧ ¬ nth l i = n) : Cv n (l.drop i) = n :: l.drop i := by
 by_cases hi : i < l.length
 ·rw [Le hi, Cv, if_neg (h hi).1, if_neg (h hi).2]
 ·rw [List.drop_eq_nil_of_le (by omega)]; rfl
theorem put1_mem {x n : Int} : ∀ {l : List Int}, x ∈ Cv n l ↔ x = n ∨ x ∈ l
 | [] => by simp [Cv]
 | y :: r => by
  unfold Cv
  split
  ·rw [List.mem_cons, put1_mem, List.mem_cons]
   constructor
   ·rintro (h | h | h) <;> simp [h]
   ·rintro (h | h | h) <;> simp [h]
  ·split
   ·rename_i h; subst h; simp
   ·rw [List.mem_cons]
def Cu : List Int → Prop
 | [] => True
 | x :: r => (∀ y ∈ r, x < y) ∧ Cu r
theorem Vv {n : Int} : ∀ {l : List Int}, Cu l → Cu (Cv n l)
 | [], _ => ⟨by simp, trivial⟩
 | y :: r, h => by
  unfold Cv
  split
  ·rename_i hy
   refine ⟨fun z hz => ?_, Vv h.2⟩
   rcases put1_mem.1 hz with rfl | hz
   ·exact hy
   ·exact h.1 z hz
  ·split
   ·exact h
   ·rename_i h1 h2
    refine ⟨fun z hz => ?_, h⟩
    rcases List.mem_cons.1 hz with rfl | hz
    ·omega
    ·have := h.1 z hz; omega
set_option maxHeartbeats 400000 in
set_option maxRecDepth 100000 in
theorem Ra (l : List Int) (n : Int) (hl : l.length ≤ 4611686018427) :
  FnV Tryz.prog 35 [(Ap l), (.int .i64 n)] (Ap (Cv n l)) := by
 refine A1 [.tmp 4] Tryz.func35 rfl Tryz.ntmps35 rfl rfl (fun B F hF => ?_)
 refine Aa [] [0, 1] ?_
 refine Aa [] [0, 1, 5] ?_
 refine Ab ?_
 refine A0 ?_
 refine Bq (fun g y => ∃ (i : Nat), i ≤ l.length ∧ Cv n l = l.take i ++ Cv n (l.drop i) ∧ y = ⟨[(0, (Ap l)), (1, (.int .i64 n)), (5, (.int .i64 ((i : Int))))], [], 0⟩ ∧ g = l.length - i) [0, 1, 5] 0 _ (by omega) ⟨0, (by omega), (by rfl), (by kernel_rfl), rfl⟩ ?_
 rintro g1 y1 ⟨i, f1_1, f1_2, rfl, rfl⟩
 refine Ab ?_
 obtain ⟨b1, hb1⟩ : ∃ b, b = (decide ((i : Int) < (l.length : Int))) := ⟨_, rfl⟩
 refine Ad (CS := [(7, (b1 = true → (b1 = true ∧ b1 = true) ∧ (0 ≤ (i : Int) ∧ i < l.length))), (8, (b1 = true → b1 = true)), (10, (b1 = true → b1 = true ∧ b1 = true)), (11, (b1 = true → b1 = true))]) [11, 12, 13, 14, 15, 16] [0, 1, 5, 17] [] hk0 (vk 5 10 (a := .bool (decide ((i : Int) < (l.length : Int)))) (b := .bool b1) (Imp.of_eq (by rw [hb1])) <| v0) (by refine cc _ ?_ <| cc _ ?_ <| cc _ ?_ <| cc _ ?_ c0 <;> first | omega | (simp; omega) | (simp; done) | (intros; simp_all; omega) | (intros; simp_all; done)) ?_
 refine A3 (q := b1 && (decide ((nth l i) < n))) (by kernel_rfl) (fun c1 => ?_) (fun c1 => ?_)
 ·subst hb1
  try simp only [Bool.and_eq_true, Bool.or_eq_true, Bool.and_eq_false_iff, Bool.or_eq_false_iff, Bool.not_eq_true', Bool.not_eq_false', decide_eq_true_eq, decide_eq_false_iff_not] at c1
  refine Ag ?_
  refine A0 ?_
  refine Ar ?_
  refine Aw 0 [] [0, 1, 5] [] hk0 v0 (cc 1 (p := (-9223372036854775808 ≤ (i : Int) + 1 ∧ (i : Int) + 1 ≤ 9223372036854775807)) (by first | omega | (simp; omega) | (simp; done) | (intros; simp_all; omega) | (intros; simp_all; done)) <| c0) ?_
  refine ⟨by kernel_rfl, _, ?_, i + 1, ?_, ?_, (by kernel_rfl), rfl⟩
  all_goals first | omega | skip
  rw [f1_2, Q54 (by omega) (by simp_all), Kf (by omega), List.append_assoc]; rfl
 ·subst hb1
  try simp only [Bool.and_eq_true, Bool.or_eq_true, Bool.and_eq_false_iff, Bool.or_eq_false_iff, Bool.not_eq_true', Bool.not_eq_false', decide_eq_true_eq, decide_eq_false_iff_not] at c1
  refine Bj ?_
  refine Ab ?_
  obtain ⟨b2, hb2⟩ : ∃ b, b = (decide ((i : Int) < (l.length : Int))) := ⟨_, rfl⟩
  refine Ad (CS := [(7, (b2 = true → (b2 = true ∧ b2 = true) ∧ (0 ≤ (i : Int) ∧ i < l.length))), (8, (b2 = true → b2 = true)), (10, (b2 = true → b2 = true ∧ b2 = true)), (11, (b2 = true → b2 = true))]) [25, 26, 27, 28, 29, 30] [0, 1, 5, 31] [] hk0 (vk 5 24 (a := .bool (decide ((i : Int) < (l.length : Int)))) (b := .bool b2) (Imp.of_eq (by rw [hb2])) <| v0) (by refine cc _ ?_ <| cc _ ?_ <| cc _ ?_ <| cc _ ?_ c0 <;> first | omega | (simp; omega) | (simp; done) | (intros; simp_all; omega) | (intros; simp_all; done)) ?_
  refine A3 (q := b2 && (decide ((nth l i) = n))) (by kernel_rfl) (fun c2 => ?_) (fun c2 => ?_)
  ·subst hb2
   try simp only [Bool.and_eq_true, Bool.or_eq_true, Bool.and_eq_false_iff, Bool.or_eq_false_iff, Bool.not_eq_true', Bool.not_eq_false', decide_eq_true_eq, decide_eq_false_iff_not] at c2
   refine Aa [] [4] ?_
   refine Af ?_
   refine RK wR [(Ap l)] ?_
   exact Same.of_eq (by rw [f1_2, Q53 (by omega) (by simp_all) (by simp_all), List.take_append_drop]; rfl)
  ·subst hb2
   try simp only [Bool.and_eq_true, Bool.or_eq_true, Bool.and_eq_false_iff, Bool.or_eq_false_iff, Bool.not_eq_true', Bool.not_eq_false', decide_eq_true_eq, decide_eq_false_iff_not] at c2
   refine Ag ?_
   refine Ab ?_
   refine I3 (by kernel_rfl) (fun F1 hF1 => ?_)
   refine Cs (fuel := 6) [] [1, 2, 3, 5, 8, 9, 10] [36, 38, 43] (hold (p := (0 ≤ (0 : Int) ∧ (0 : Int) ≤ (i : Int) ∧ (i : Int) ≤ (l.length : Int)) ∧ (0 ≤ (i : Int) ∧ (i : Int) ≤ (l.length : Int) ∧ (l.length : Int) ≤ (l.length : Int))) (by first | omega | (simp; omega) | (simp; done) | (intros; simp_all; omega) | (intros; simp_all; done))) ?_
   refine Ce 0 6 (by kernel_rfl) ?_ ?_
   ·refine Ba (fuel := 5) 0 [] Az ?_
    refine Ax [33, 36, 38, 43] ?_
    refine Ce 4 6 (by kernel_rfl) ?_ ?_
    ·refine Ba (fuel := 4) 4 [] (hold (p := ((([] : List AV).length + (i - 0)) * 8 ≤ 140737488355328)) (by first | omega | (simp; omega) | (simp; done) | (intros; simp_all; omega) | (intros; simp_all; done))) ?_
     refine Ax [37, 38, 43] ?_
     refine Cq (fuel := 3) 6 [] Az ?_
     refine Cq (fuel := 2) 7 [] (hold (p := (((([] : List AV) ++ ((List.range (i - 0)).map (fun kx => ((.int .i64 (nth l (0 + kx))) : AV)))).length + 1) * 8 ≤ 140737488355328)) (by first | omega | (simp; omega) | (simp; done) | (intros; simp_all; omega) | (intros; simp_all; done))) ?_
     refine Cq (fuel := 1) 11 [] (hold (p := ((((([] : List AV) ++ ((List.range (i - 0)).map (fun kx => ((.int .i64 (nth l (0 + kx))) : AV)))) ++ ([(.int .i64 n)] : List AV)).length + (l.length - i)) * 8 ≤ 140737488355328)) (by first | omega | (simp; omega) | (simp; done) | (intros; simp_all; omega) | (intros; simp_all; done))) ?_
     refine Cs (fuel := 0) [] [12] [4] Az ?_
     refine Ax [4] ?_
     refine Gj (by kernel_rfl) ?_
     refine Af ?_
     refine RK wR [(.row 1 (((([] : List AV) ++ ((List.range (i - 0)).map (fun kx => ((.int .i64 (nth l (0 + kx))) : AV)))) ++ ([(.int .i64 n)] : List AV)) ++ ((List.range (l.length - i)).map (fun kx => ((.int .i64 (nth l (i + kx))) : AV)))).length (fun ix => (((([] : List AV) ++ ((List.range (i - 0)).map (fun kx => ((.int .i64 (nth l (0 + kx))) : AV)))) ++ ([(.int .i64 n)] : List AV)) ++ ((List.range (l.length - i)).map (fun kx => ((.int .i64 (nth l (i + kx))) : AV)))).getD ix Bl))] ?_
     simp only [Ah]
     exact Same.grown (f := AV.int .i64) (l := Cv n l) (by rw [f1_2, Rb (fun _ => by simp_all), N2 (AV.int .i64) (by omega), Q4 (AV.int .i64) (by omega)]; simp [Em])
    ·refine Ba (fuel := 4) 6 [] Az ?_
     refine Ax [33, 36, 39, 43] ?_
     refine Cq (fuel := 3) 4 [] (hold (p := ((([] : List AV).length + (i - 0)) * 8 ≤ 140737488355328)) (by first | omega | (simp; omega) | (simp; done) | (intros; simp_all; omega) | (intros; simp_all; done))) ?_
     refine Cq (fuel := 2) 7 [] (hold (p := (((([] : List AV) ++ ((List.range (i - 0)).map (fun kx => ((.int .i64 (nth l (0 + kx))) : AV)))).length + 1) * 8 ≤ 140737488355328)) (by first | omega | (simp; omega) | (simp; done) | (intros; simp_all; omega) | (intros; simp_all; done))) ?_
     refine Cq (fuel := 1) 11 [] (hold (p := ((((([] : List AV) ++ ((List.range (i - 0)).map (fun kx => ((.int .i64 (nth l (0 + kx))) : AV)))) ++ ([(.int .i64 n)] : List AV)).length + (l.length - i)) * 8 ≤ 140737488355328)) (by first | omega | (simp; omega) | (simp; done) | (intros; simp_all; omega) | (intros; simp_all; done))) ?_
     refine Cs (fuel := 0) [] [12] [4] Az ?_
     refine Ax [4] ?_
     refine Gj (by kernel_rfl) ?_
     refine Af ?_
     refine RK wR [(.row 1 (((([] : List AV) ++ ((List.range (i - 0)).map (fun kx => ((.int .i64 (nth l (0 + kx))) : AV)))) ++ ([(.int .i64 n)] : List AV)) ++ ((List.range (l.length - i)).map (fun kx => ((.int .i64 (nth l (i + kx))) : AV)))).length (fun ix => (((([] : List AV) ++ ((List.range (i - 0)).map (fun kx => ((.int .i64 (nth l (0 + kx))) : AV)))) ++ ([(.int .i64 n)] : List AV)) ++ ((List.range (l.length - i)).map (fun kx => ((.int .i64 (nth l (i + kx))) : AV)))).getD ix Bl))] ?_
     simp only [Ah]
     exact Same.grown (f := AV.int .i64) (l := Cv n l) (by rw [f1_2, Rb (fun _ => by simp_all), N2 (AV.int .i64) (by omega), Q4 (AV.int .i64) (by omega)]; simp [Em])
   ·refine Ba (fuel := 5) 6 [] Az ?_
    refine Ax [36, 39, 43] ?_
    refine Cq (fuel := 4) 0 [] Az ?_
    refine Cq (fuel := 3) 4 [] (hold (p := ((([] : List AV).length + (i - 0)) * 8 ≤ 140737488355328)) (by first | omega | (simp; omega) | (simp; done) | (intros; simp_all; omega) | (intros; simp_all; done))) ?_
    refine Cq (fuel := 2) 7 [] (hold (p := (((([] : List AV) ++ ((List.range (i - 0)).map (fun kx => ((.int .i64 (nth l (0 + kx))) : AV)))).length + 1) * 8 ≤ 140737488355328)) (by first | omega | (simp; omega) | (simp; done) | (intros; simp_all; omega) | (intros; simp_all; done))) ?_
    refine Cq (fuel := 1) 11 [] (hold (p := ((((([] : List AV) ++ ((List.range (i - 0)).map (fun kx => ((.int .i64 (nth l (0 + kx))) : AV)))) ++ ([(.int .i64 n)] : List AV)).length + (l.length - i)) * 8 ≤ 140737488355328)) (by first | omega | (simp; omega) | (simp; done) | (intros; simp_all; omega) | (intros; simp_all; done))) ?_
    refine Cs (fuel := 0) [] [12] [4] Az ?_
    refine Ax [4] ?_
    refine Gj (by kernel_rfl) ?_
    refine Af ?_
    refine RK wR [(.row 1 (((([] : List AV) ++ ((List.range (i - 0)).map (fun kx => ((.int .i64 (nth l (0 + kx))) : AV)))) ++ ([(.int .i64 n)] : List AV)) ++ ((List.range (l.length - i)).map (fun kx => ((.int .i64 (nth l (i + kx))) : AV)))).length (fun ix => (((([] : List AV) ++ ((List.range (i - 0)).map (fun kx => ((.int .i64 (nth l (0 + kx))) : AV)))) ++ ([(.int .i64 n)] : List AV)) ++ ((List.range (l.length - i)).map (fun kx => ((.int .i64 (nth l (i + kx))) : AV)))).getD ix Bl))] ?_
    simp only [Ah]
    exact Same.grown (f := AV.int .i64) (l := Cv n l) (by rw [f1_2, Rb (fun _ => by simp_all), N2 (AV.int .i64) (by omega), Q4 (AV.int .i64) (by omega)]; simp [Em])
set_option maxHeartbeats 400000 in
set_option maxRecDepth 100000 in
theorem Q5q (st : PoolT) (pl : List (Int × Int)) :
  FnV Tryz.prog 34 [(.fp (Dh st pl))] (.int .i64 ((pl.length : Int))) := by
 refine A1 [.tmp 2] Tryz.func34 rfl Tryz.ntmps34 rfl rfl (fun B F hF => ?_)
 refine Aa [] [0] ?_
 refine Aa [] [2] ?_
 refine Af ?_
 refine RK wR [(.int .i64 ((pl.length : Int)))] ?_
 exact Same.of_eq (by first | rfl | (simp only [Ah]; simp_all))
end Sv
end Go.Proofs.YtlfjokcbkopfeaaGreatDoor
end
section
namespace Go.Proofs.YtlfjokcbkopfeaaGreatDoor
open Go Go.RowKit
namespace Sv
def Hs (st : PoolT) (pl : List (Int × Int)) : Prop := pl.length = st.all.length ∧ ∀ i, i < st.all.length → 0 ≤ (nth pl i).1 ∧ (nth pl i).1 < st.repos.length ∧ 0 ≤ (nth pl i).2 ∧ (nth pl i).2 < (nth st.repos (nth pl i).1.toNat).pkgs.length ∧
  nth (nth st.repos (nth pl i).1.toNat).pkgs (nth pl i).2.toNat = (nth st.all i).1 ∧ (nth pl i).1 = (nth st.all i).2
def Q2w (l : List RepoT) (st : PoolT) : Prop := ∀ q ∈ st.all, ∃ r ∈ l, q.1 ∈ r.pkgs
theorem Rl {α : Type} [Inhabited α] {l m : List α} {i : Nat} (h : i < l.length) : nth (l ++ m) i = nth l i := by
  simp only [nth]; rw [List.getElem?_append_left h]
theorem Rk {α : Type} [Inhabited α] {l m : List α} {i : Nat} (h : l.length ≤ i) : nth (l ++ m) i = nth m (i - l.length) := by
  simp only [nth]; rw [List.getElem?_append_right h]
theorem Tf {k : Int} {l : List RepoT} {r : RepoT} : Ao k (l ++ [r]) = (B4 (Ao k l).1 r, En (Ao k l).2 (Ao k l).1 r) := by
  unfold Ao; rw [List.foldl_append]; rfl
theorem Qn {α : Type} {C : List α → Prop} (h0 : C []) (h : ∀ l a, C l → C (l ++ [a])) (l : List α) : C l := by
  rw [← List.reverse_reverse l]
  induction l.reverse with
  | nil => exact h0
  | cons a r ih => rw [List.reverse_cons]; exact h _ _ ih
theorem X2j (k : Int) : ∀ l : List RepoT, Q2w l (Ao k l).1 := by
  refine Qn (C := fun l => Q2w l (Ao k l).1) (fun q hq => by cases hq) fun l r ih => ?_
  rw [Tf]
  intro q hq
  have old : q ∈ (Ao k l).1.all → ∃ r' ∈ l ++ [r], q.1 ∈ r'.pkgs := fun h => by
    obtain ⟨r', h1, h2⟩ := ih q h
    exact ⟨r', List.mem_append_left _ h1, h2⟩
  unfold B4 at hq
  split at hq
  · simp only [As, List.take_length] at hq
    rcases List.mem_append.1 hq with h | h
    · exact old h
    · obtain ⟨p, hp, rfl⟩ := List.mem_map.1 h
      exact ⟨r, by simp, hp⟩
  · exact old hq
theorem Q04 {k : Int} {l : List RepoT} (h : ∀ i, i < l.length → (nth l i).size ≤ 4194304) : IdxOk (Ao k l).1 := by
  refine ⟨(Q03 k l).2.1, fun i hi => ?_⟩
  obtain ⟨r, hr, hp⟩ := X2j k l (nth (Ao k l).1.all i) (by rw [Es hi]; exact List.getElem_mem hi)
  obtain ⟨a, ha, rfl⟩ := List.getElem_of_mem hr
  obtain ⟨b, hb, e⟩ := List.getElem_of_mem hp
  have h1 := RepoT.size_pkg hb
  have h2 := h a ha
  rw [Es ha] at h2
  rw [Es hb, e] at h1
  omega
theorem X2k (k : Int) : ∀ l : List RepoT, Hs (Ao k l).1 (Ao k l).2 := by
  refine Qn (C := fun l => Hs (Ao k l).1 (Ao k l).2) ⟨rfl, fun i hi => by simp [Ao] at hi⟩ fun l r ih => ?_
  rw [Tf]
  generalize (Ao k l).1 = st at ih
  generalize (Ao k l).2 = pl at ih
  show Hs (B4 st r) (En pl st r)
  by_cases he : B8 st r = 0
  · have e1 : B4 st r = ⟨st.kind, st.repos ++ [r], As st r r.pkgs.length⟩ := if_pos he
    have e2 : En pl st r = Ck pl st r r.pkgs.length := if_pos he
    rw [e1, e2]
    have hl : (As st r r.pkgs.length).length = st.all.length + r.pkgs.length := by simp [As]
    have hl2 : (Ck pl st r r.pkgs.length).length = pl.length + r.pkgs.length := by simp [Ck]
    refine ⟨by show (Ck pl st r r.pkgs.length).length = (As st r r.pkgs.length).length; rw [hl, hl2, ih.1], fun i hi => ?_⟩
    have hi : i < (As st r r.pkgs.length).length := hi
    rw [hl] at hi
    show 0 ≤ (nth (Ck pl st r r.pkgs.length) i).1 ∧ (nth (Ck pl st r r.pkgs.length) i).1 < ((st.repos ++ [r]).length : Int) ∧ 0 ≤ (nth (Ck pl st r r.pkgs.length) i).2 ∧ (nth (Ck pl st r r.pkgs.length) i).2 < ((nth (st.repos ++ [r]) (nth (Ck pl st r r.pkgs.length) i).1.toNat).pkgs.length : Int) ∧ nth (nth (st.repos ++ [r]) (nth (Ck pl st r r.pkgs.length) i).1.toNat).pkgs (nth (Ck pl st r r.pkgs.length) i).2.toNat = (nth (As st r r.pkgs.length) i).1 ∧ (nth (Ck pl st r r.pkgs.length) i).1 = (nth (As st r r.pkgs.length) i).2
    unfold Ck As
    by_cases h : i < st.all.length
    · have k := ih.2 i h
      rw [Rl (l := pl) (by rw [ih.1]; exact h), Rl (l := st.all) h, Rl (l := st.repos) (by omega)]
      exact ⟨k.1, by rw [List.length_append]; omega, k.2.2.1, k.2.2.2.1, k.2.2.2.2.1, k.2.2.2.2.2⟩
    · obtain ⟨j, rfl⟩ : ∃ j, i = st.all.length + j := ⟨i - st.all.length, by omega⟩
      have hj : j < r.pkgs.length := by omega
      rw [Rk (l := pl) (by rw [ih.1]; omega), Rk (l := st.all) (by omega), show st.all.length + j - pl.length = j by rw [ih.1]; omega, show st.all.length + j - st.all.length = j by omega, List.take_length]
      have a1 : nth ((List.range r.pkgs.length).map fun (k : Nat) => ((st.repos.length : Int), (k : Int))) j = ((st.repos.length : Int), (j : Int)) := by simp [nth, hj]
      have a2 : nth (r.pkgs.map fun p => (p, (st.repos.length : Int))) j = (nth r.pkgs j, (st.repos.length : Int)) := by simp [nth, hj]
      rw [a1, a2]
      have a3 : nth (st.repos ++ [r]) ((st.repos.length : Int)).toNat = r := by rw [Rk (by simp)]; simp [nth]
      refine ⟨Int.natCast_nonneg _, by rw [List.length_append, List.length_singleton]; show (st.repos.length : Int) < _; omega, Int.natCast_nonneg _, ?_, ?_, rfl⟩
      · show (j : Int) < ((nth (st.repos ++ [r]) ((st.repos.length : Int)).toNat).pkgs.length : Int)
        rw [a3]; omega
      · show nth (nth (st.repos ++ [r]) ((st.repos.length : Int)).toNat).pkgs ((j : Int)).toNat = nth r.pkgs j
        rw [a3]; rfl
  · have e1 : B4 st r = st := if_neg he
    have e2 : En pl st r = pl := if_neg he
    rw [e1, e2]; exact ih
end Sv
end Go.Proofs.YtlfjokcbkopfeaaGreatDoor
end
section
namespace Go.Proofs.YtlfjokcbkopfeaaGreatDoor
open Go Go.RowKit
namespace Sv
attribute [local irreducible] SW SO Bg
end Sv
end Go.Proofs.YtlfjokcbkopfeaaGreatDoor
end
section
namespace Go.Proofs.YtlfjokcbkopfeaaGreatDoor
open Go Go.RowKit
namespace Sv
abbrev Q2q := Int → Int → List UInt8 → Int → List UInt8 → Bool × Int
section
variable {m : Q2q} {st : PoolT} {s : List Int}
end
section
variable {m : Q2q} {st : PoolT} {s : List Int}
end
end Sv
end Go.Proofs.YtlfjokcbkopfeaaGreatDoor
end
