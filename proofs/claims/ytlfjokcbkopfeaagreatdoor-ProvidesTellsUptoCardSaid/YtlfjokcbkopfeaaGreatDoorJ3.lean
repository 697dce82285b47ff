/- The texts Pool4, Pool5, Pool6, Pool7, Prov1, CompI, Prov2, Prov3, Prov4, Prov5, Prov6, Prov7, Prov8, Evr2, Evr3, Evr4, Evr5 of the proof, joined. Each says at its theorems what it proves. -/
import Derived.Test.YtlfjokcbkopfeaaGreatDoorJ2
import Derived.Sort.OwnSortedInts
set_option linter.unusedSimpArgs false
set_option linter.unusedVariables false
section
namespace Go.Proofs.YtlfjokcbkopfeaaGreatDoor
open Go Go.RowKit
namespace Sv
attribute [local irreducible] SW SO Bg
set_option maxHeartbeats 1000000
set_option maxRecDepth 100000
theorem R7 : As Tryz.prog 11 := Ax Tryz.func11 (by kernel_rfl) rfl
theorem Q75 : As Tryz.prog 48 := Ax Tryz.func48 (by kernel_rfl) rfl
theorem Q74 : As Tryz.prog 49 := Ax Tryz.func49 (by kernel_rfl) rfl
noncomputable def Av (r : RepoT) : AV := .agg [.str r.name, .int .i64 r.prio, .bool r.inst, .nils]
noncomputable def Am (k : PkgT × Int) : AV := .agg [.str k.1.name, .str k.1.evr, .str k.1.arch, .str k.1.vendor, Dg k.1.provides, Dg k.1.requires, Dg k.1.pre, Dg k.1.conflicts, Dg k.1.obsoletes, Dg k.1.recommends, Dg k.1.supplements, Ch k.1.files, .int .i64 k.2]
structure PoolT where
 kind : Int
 repos : List RepoT
 all : List (PkgT × Int)
 deriving Inhabited
def K9 (l : List PkgT) : Int := match l.find? (fun p => decide (Dn p ≠ 0)) with
 | some p => Dn p
 | none => 0
def B2 (st : PoolT) (r : RepoT) : Int :=
 if Bf r.name = false ∨ st.repos.any (fun o => decide (o.name = r.name)) = true then 66
 else if r.inst = true ∧ st.repos.any (fun o => o.inst) = true then 67
 else if 8 ≤ st.repos.length ∨ 200 < st.all.length + r.pkgs.length then 68
 else K9 r.pkgs
def Ay (st : PoolT) (r : RepoT) (i : Nat) : List (PkgT × Int) := st.all ++ (r.pkgs.take i).map fun p => (p, (st.repos.length : Int))
def Bk (st : PoolT) (r : RepoT) : PoolT := if B2 st r = 0 then ⟨st.kind, st.repos ++ [r], Ay st r r.pkgs.length⟩ else st
def L5 (l : List (PkgT × Int)) (s : List UInt8) : List Nat := (List.range l.length).filter fun i => decide ((nth l i).1.name = s)
noncomputable def Au (l : List (PkgT × Int)) (s : List UInt8) : List AV := (L5 l s).map fun (i : Nat) => AV.int .i64 (i : Int)
theorem H7 {st : PoolT} {r : RepoT} {e : Int} (h : B2 st r = e) (he : e ≠ 0) : Bk st r = st := by unfold Bk; rw [if_neg (by rw [h]; exact he)]
theorem Yc {l : List PkgT} (h : ∀ j, j < l.length → Dn (nth l j) = 0) : K9 l = 0 := by
 unfold K9
 rw [List.find?_eq_none.2]
 intro x hx
 obtain ⟨j, hj, rfl⟩ := List.getElem_of_mem hx
 have := h j hj
 simpa [nth, hj] using this
theorem Rn : ∀ {l : List PkgT} {i : Nat}, i < l.length → (∀ j, j < i → Dn (nth l j) = 0) → Dn (nth l i) ≠ 0 → K9 l = Dn (nth l i)
 | [], _, h, _, _ => by simp at h
 | x :: r, 0, _, _, h => by
  have h : Dn x ≠ 0 := h
  unfold K9; rw [List.find?_cons_of_pos (by simpa using h)]; rfl
 | x :: r, i + 1, hi, h, hp => by
  have h0 : Dn x = 0 := h 0 (by omega)
  have := Rn (l := r) (i := i) (by simpa using hi) (fun j hj => h (j + 1) (by omega)) hp
  unfold K9 at this ⊢
  rw [List.find?_cons_of_neg (by simp [h0])]; exact this
theorem Q6f {st : PoolT} {r : RepoT} {i : Nat} (h : i < r.pkgs.length) : Ay st r (i + 1) = Ay st r i ++ [(nth r.pkgs i, (st.repos.length : Int))] := by
 unfold Ay
 rw [List.take_add_one, List.getElem?_eq_getElem h, List.map_append, List.append_assoc]
 simp [nth, h]
theorem Q6g {st : PoolT} {r : RepoT} {i : Nat} : (Ay st r i).length ≤ st.all.length + i := by unfold Ay; simp; omega
theorem Wy (l : List (PkgT × Int)) (k : PkgT × Int) : Dm (Au l) k.1.name (Au l k.1.name ++ [.int .i64 (l.length : Int)]) = Au (l ++ [k]) := by
 funext s
 have e : L5 (l ++ [k]) s = L5 l s ++ (if k.1.name = s then [l.length] else []) := by
  unfold L5
  rw [List.length_append, List.length_singleton, List.range_succ, List.filter_append]
  congr 1
  ·refine List.filter_congr fun i hi => ?_
   have : i < l.length := by simpa using hi
   have : nth (l ++ [k]) i = nth l i := by simp [nth, List.getElem?_append_left this]
   rw [this]
  ·have : nth (l ++ [k]) l.length = k := by simp [nth]
   by_cases h : k.1.name = s <;> simp [this, h]
 unfold Dm Au
 rw [e]
 by_cases h : s = k.1.name
 ·subst h; rw [if_pos rfl, if_pos rfl, List.map_append]; rfl
 ·rw [if_neg h, if_neg (fun q => h q.symm), List.append_nil]
theorem Q5m (l : List (PkgT × Int)) (s : List UInt8) : (Au l s).length ≤ l.length := by
 unfold Au L5
 rw [List.length_map]
 exact Nat.le_trans (List.length_filter_le _ _) (by simp)
theorem Q3p (l : List RepoT) (a : AV) (p : RepoT → Bool) (hl : l.length ≤ 4611686018427387904) (ha : ∀ i, i < l.length → FunV Tryz.prog a [(.agg [(.str ((nth l i).name)), (.int .i64 ((nth l i).prio)), (.bool ((nth l i).inst)), .nils])] (.bool (p (nth l i)))) :
  FnV Tryz.prog 96 [(Ah 4 Av l), (.clo a)] (.int .i64 (D0 p l)) := by
 refine Ba [.tmp 4] Tryz.func96 rfl Tryz.ntmps96 rfl rfl (fun B F hF => ?_)
 refine Aa [] [0, 1] ?_
 refine Ab ?_
 refine Aa [] [0, 1, 7, 8] ?_
 refine A3 ?_
 refine Bs (fun g y => ∃ (i : Nat), i ≤ l.length ∧ (∀ j, j < i → p (nth l j) = false) ∧ y = ⟨[(0, (Ah 4 Av l)), (1, (.clo a)), (7, (.int .i64 ((l.length : Int)))), (8, (.int .i64 ((i : Int))))], [], 0⟩ ∧ g = l.length - i) [0, 1, 7, 8] 0 _ (by omega) ⟨0, (by omega), (by exact fun j hj => by omega), (by kernel_rfl), rfl⟩ ?_
 rintro g1 y1 ⟨i, f1_1, f1_2, rfl, rfl⟩
 refine Aa [] [0, 1, 7, 8, 9] ?_
 refine Ab ?_
 refine A8 (p := (i : Int) < (l.length : Int)) (by kernel_rfl) (fun c1 => ?_) (fun c1 => ?_)
 ·refine Ai ?_
  refine Ab ?_
  refine A3 ?_
  refine Aa [] [0, 1, 5, 7, 8] ?_
  refine Ab ?_
  refine Ar ?_
  refine Bj 5 0 [] [0, 1, 5, 7, 8, 11, 15] [] hk0 v0 (cc 3 (p := (0 ≤ (i : Int) ∧ i < l.length)) (by omega) <| c0) ?_
  refine F7 (s' := [(0, (Ah 4 Av l)), (1, (.clo a)), (5, (.int .i64 ((i : Int)))), (7, (.int .i64 ((l.length : Int)))), (8, (.int .i64 ((i : Int)))), (11, (.clo a)), (15, (.agg [(.str ((nth l i).name)), (.int .i64 ((nth l i).prio)), (.bool ((nth l i).inst)), .nils])), (16, (.bool (p (nth l i))))]) (a := (.clo a)) (al := [(.agg [(.str ((nth l i).name)), (.int .i64 ((nth l i).prio)), (.bool ((nth l i).inst)), .nils])]) (r := (.bool (p (nth l i)))) (by kernel_rfl) (by kernel_rfl) (by kernel_rfl) (by kernel_rfl) (by kernel_rfl) ((ha i (by omega)).clo) (by kernel_rfl) ?_
  refine Be ?_
  refine A9 (q := p (nth l i)) (by kernel_rfl) (fun c2 => ?_) (fun c2 => ?_)
  ·try simp only [Al] at c2
   refine Aa [] [4] ?_
   refine Ag ?_
   refine RK wR [(.int .i64 ((i : Int)))] ?_
   exact Same.of_eq (by rw [Jq (by omega) f1_2 (by simp_all)]; rfl)
  ·try simp only [Al] at c2
   refine Ai ?_
   refine Ar ?_
   refine A2 0 [] [0, 1, 7, 8] [] hk0 v0 (cc 0 (p := (-9223372036854775808 ≤ (i : Int) + 1 ∧ (i : Int) + 1 ≤ 9223372036854775807)) (by omega) <| c0) ?_
   refine ⟨by kernel_rfl, _, ?_, i + 1, ?_, ?_, (by kernel_rfl), rfl⟩
   ·omega
   ·omega
   ·intro j hj
    by_cases h : j = i
    ·subst h; simp_all
    ·exact f1_2 j (by omega)
 ·refine Bl ?_
  refine Aa [] [4] ?_
  refine Ag ?_
  refine RK wR [(.int .i64 (-1))] ?_
  exact Same.of_eq (by rw [Jp (fun j hj => f1_2 j (by omega))]; rfl)
theorem Us (l : List RepoT) (a : AV) (p : RepoT → Bool) (hl : l.length ≤ 4611686018427387904) (ha : ∀ i, i < l.length → FunV Tryz.prog a [(.agg [(.str ((nth l i).name)), (.int .i64 ((nth l i).prio)), (.bool ((nth l i).inst)), .nils])] (.bool (p (nth l i)))) :
  FnV Tryz.prog 47 [(Ah 4 Av l), (.clo a)] (.bool (l.any p)) := by
 refine Ba [.tmp 4] Tryz.func47 rfl Tryz.ntmps47 rfl rfl (fun B F hF => ?_)
 refine Aa [] [0, 1] ?_
 refine Ae [] [4] [] (hk 2 Q7t (Q3p l a p hl ha) <| hk0) v0 c0 ?_
 refine Ag ?_
 refine RK wR [(.bool (decide (0 ≤ (D0 p l))))] ?_
 exact Same.of_eq (by simp only [Aj]; rw [Jr])
theorem Q24 (o r : RepoT) :
  FnV Tryz.prog 48 [(.agg [(.str o.name), (.int .i64 o.prio), (.bool o.inst), .nils]), (.fp (.agg [(.str r.name), (.int .i64 r.prio), (.bool r.inst), (Ah 12 Ak r.pkgs)]))] (.bool (decide (o.name = r.name))) := by
 refine Ba [.tmp 3] Tryz.func48 rfl Tryz.ntmps48 rfl rfl (fun B F hF => ?_)
 refine Ae [] [1, 2] [(1, 2)] hk0 v0 c0 ?_
 refine Aa [] [3] ?_
 refine Ag ?_
 refine RK wR [(.bool (decide (o.name = r.name)))] ?_
 exact Same.of_eq (by first | rfl | (simp only [Aj]; simp_all))
theorem Q6k (o : RepoT) :
  FnV Tryz.prog 49 [(.agg [(.str o.name), (.int .i64 o.prio), (.bool o.inst), .nils])] (.bool o.inst) := by
 refine Ba [.tmp 2] Tryz.func49 rfl Tryz.ntmps49 rfl rfl (fun B F hF => ?_)
 refine Ae [] [1] [(1, 1)] hk0 v0 c0 ?_
 refine Aa [] [2] ?_
 refine Ag ?_
 refine RK wR [(.bool o.inst)] ?_
 exact Same.of_eq (by first | rfl | (simp only [Aj]; simp_all))
theorem Ta (st : PoolT) (r : RepoT) (hr : st.repos.length ≤ 8) (ha : st.all.length ≤ 200) (hn : r.name.length ≤ 4194304) (hpl : r.pkgs.length ≤ 4194304) (hp : ∀ i, i < r.pkgs.length → (nth r.pkgs i).size ≤ 4194304) :
  Dj Tryz.prog 11 [(.ptr 0 0), (.agg [(.str r.name), (.int .i64 r.prio), (.bool r.inst), (Ah 12 Ak r.pkgs)])] [(0, (.row [(.int .i64 st.kind), (.own 1), (.own 2), (.map 3)] 92)), (1, (.grow (st.repos.map Av) 41 4)), (2, (.grow (st.all.map Am) 97 13)), (3, (.mm (Au st.all) none 3 1))] 4 (.int .i64 (B2 st r)) [(0, (.row [(.int .i64 ((Bk st r).kind)), (.own 1), (.own 2), (.map 3)] 92)), (1, (.grow ((Bk st r).repos.map Av) 41 4)), (2, (.grow ((Bk st r).all.map Am) 97 13)), (3, (.mm (Au (Bk st r).all) none 3 1))] := by
 have hml : (st.repos.map Av).length = st.repos.length := List.length_map _
 have hma : (st.all.map Am).length = st.all.length := List.length_map _
 refine Fh [.tmp 4] Tryz.func11 rfl Tryz.ntmps11 rfl rfl (by kernel_rfl) (by kernel_rfl) (by kernel_rfl) (fun B F hF => ?_)
 refine Aa [] [0, 3] ?_
 refine Ab ?_
 refine A3 ?_
 refine Aa [] [0, 3, 10] ?_
 refine Db (by kernel_rfl) ?_
 refine Ab ?_
 refine Ar ?_
 obtain ⟨b2, hb2⟩ : ∃ b, b = (!(Bf r.name)) := ⟨_, rfl⟩
 refine Bj (CS := [(6, ((!b2) = true → (!b2) = true)), (7, ((!b2) = true → (!b2) = true)), (8, ((!b2) = true → (!b2) = true))]) 10 0 [19, 20, 21, 22, 23] [0, 3, 18, 22, 23] [] (hk 2 Jx (Ln r.name (by omega)) <| hk0) (vk 5 18 (a := .bool (!(Bf r.name))) (b := .bool b2) (Imp.of_eq (by rw [hb2])) <| v0) (by refine cc _ ?_ <| cc _ ?_ <| cc _ ?_ c0 <;> simp) ?_
 refine S1 (s' := [(0, (.ptr 0 0)), (3, (.ptr 4 0)), (18, (.bool b2)), (22, (.cond (!b2) (.own 1))), (23, (.cond (!b2) (.fn 48 [] [(.ptr 4 0)]))), (24, (.cond (!b2) (.bool (st.repos.any (fun o => decide (o.name = r.name))))))]) (q := !b2) (al := [(.own 1), (.fn 48 [] [(.ptr 4 0)])]) (al' := [(.row 4 (st.repos.map Av).length (fun ix => (st.repos.map Av).getD ix Bh)), (.fn 48 [] [(.fp (.agg [(.str r.name), (.int .i64 r.prio), (.bool r.inst), (Ah 12 Ak r.pkgs)]))])]) (h' := [(0, (.row [(.int .i64 st.kind), (.own 1), (.own 2), (.map 3)] 92)), (2, (.grow (st.all.map Am) 97 13)), (3, (.mm (Au st.all) none 3 1))]) (r := (.bool (st.repos.any (fun o => decide (o.name = r.name))))) (by kernel_rfl) (by exact Yt) (by kernel_rfl) (Oc (some ((!b2) = true ∧ (!b2) = true)) (by kernel_rfl) fun cg => hold (by (intros; simp_all; done))) (by kernel_rfl) (fun cg => (Us st.repos (.fn 48 [] [.fp (.agg [(.str r.name), (.int .i64 r.prio), (.bool r.inst), (Ah 12 Ak r.pkgs)])]) (fun o => decide (o.name = r.name)) (by omega) (fun i hi => FunV.of (by exact Q75) (Q24 (nth st.repos i) r))).of_args (ImpL.cons (Imp.list (f := Av) (List.length_map _)) (ImpL.cons (Imp.clo (by kernel_rfl)) ImpL.nil))) rfl (by kernel_rfl) ?_
 obtain ⟨b3, hb3⟩ : ∃ b, b = (b2 || (st.repos.any (fun o => decide (o.name = r.name)))) := ⟨_, rfl⟩
 refine A2 11 [] [0, 3, 13] [] hk0 (vk 12 25 (a := .bool (b2 || (st.repos.any (fun o => decide (o.name = r.name))))) (b := .bool b3) (Imp.of_eq (by rw [hb3])) <| v0) (cc 11 (p := (b2 = false → (!b2) = true)) (by simp) <| c0) ?_
 refine A9 (q := b3) (by kernel_rfl) (fun c1 => ?_) (fun c1 => ?_)
 ·subst hb3 hb2
  try simp only [Al] at c1
  refine Aa [] [4] ?_
  refine Ag ?_
  refine Dd (.inl rfl) (al := [(.int .i64 66)]) (by kernel_rfl) ?_ ((by kernel_rfl : Cq 4 _ = some [(0, (.row [(.int .i64 st.kind), (.own 1), (.own 2), (.map 3)] 92)), (1, (.grow (st.repos.map Av) 41 4)), (2, (.grow (st.all.map Am) 97 13)), (3, (.mm (Au st.all) none 3 1))]).trans ?_)
  all_goals have hE : B2 st r = 66 := by unfold B2; rw [if_pos c1]
  ·rw [hE]; rfl
  ·rw [H7 hE (by decide)]
 ·subst hb3 hb2
  try simp only [Al] at c1
  refine Ab ?_
  refine Ar ?_
  refine Bj (CS := [(4, (r.inst = true → r.inst = true)), (5, (r.inst = true → r.inst = true)), (6, (r.inst = true → r.inst = true))]) 7 0 [30, 31, 32, 33] [0, 3, 29, 33] [] hk0 v0 (by refine cc _ ?_ <| cc _ ?_ <| cc _ ?_ c0 <;> simp) ?_
  refine S1 (s' := [(0, (.ptr 0 0)), (3, (.ptr 4 0)), (29, (.bool r.inst)), (33, (.cond r.inst (.own 1))), (34, (.cond r.inst (.bool (st.repos.any (fun o => o.inst)))))]) (q := r.inst) (al := [(.own 1), (.fn 49 [] [])]) (al' := [(.row 4 (st.repos.map Av).length (fun ix => (st.repos.map Av).getD ix Bh)), (.fn 49 [] [])]) (h' := [(0, (.row [(.int .i64 st.kind), (.own 1), (.own 2), (.map 3)] 92)), (2, (.grow (st.all.map Am) 97 13)), (3, (.mm (Au st.all) none 3 1)), (4, (.row [(.str r.name), (.int .i64 r.prio), (.bool r.inst), (Ah 12 Ak r.pkgs)] 41))]) (r := (.bool (st.repos.any (fun o => o.inst)))) (by kernel_rfl) (by exact Yt) (by kernel_rfl) (Oc (some (r.inst = true)) (by kernel_rfl) fun cg => hold (by omega)) (by kernel_rfl) (fun cg => (Us st.repos (.fn 49 [] []) (fun o => o.inst) (by omega) (fun i hi => FunV.of (by exact Q74) (Q6k (nth st.repos i)))).of_args (ImpL.cons (Imp.list (f := Av) (List.length_map _)) (ImpL.cons (Imp.clo (by kernel_rfl)) ImpL.nil))) rfl (by kernel_rfl) ?_
  refine A2 8 [] [0, 3, 26] [] hk0 v0 (cc 8 (p := (r.inst = true → r.inst = true)) (by simp) <| c0) ?_
  refine A9 (q := r.inst && (st.repos.any (fun o => o.inst))) (by kernel_rfl) (fun c2 => ?_) (fun c2 => ?_)
  ·try simp only [Al] at c2
   refine Aa [] [4] ?_
   refine Ag ?_
   refine Dd (.inl rfl) (al := [(.int .i64 67)]) (by kernel_rfl) ?_ ((by kernel_rfl : Cq 4 _ = some [(0, (.row [(.int .i64 st.kind), (.own 1), (.own 2), (.map 3)] 92)), (1, (.grow (st.repos.map Av) 41 4)), (2, (.grow (st.all.map Am) 97 13)), (3, (.mm (Au st.all) none 3 1))]).trans ?_)
   all_goals have hE : B2 st r = 67 := by unfold B2; rw [if_neg (by simp only [not_or]; simp_all), if_pos (by simp_all)]
   ·rw [hE]; rfl
   ·rw [H7 hE (by decide)]
  ·try simp only [Al] at c2
   refine C7 (fun y => y = ⟨[(0, (.ptr 0 0)), (3, (.ptr 4 0)), (36, (.bool (decide ((8 : Int) ≤ ((st.repos.map Av).length : Int)) || decide ((200 : Int) < ((st.all.map Am).length : Int) + (r.pkgs.length : Int)))))], [(0, (.row [(.int .i64 st.kind), (.own 1), (.own 2), (.map 3)] 92)), (1, (.grow (st.repos.map Av) 41 4)), (2, (.grow (st.all.map Am) 97 13)), (3, (.mm (Au st.all) none 3 1)), (4, (.row [(.str r.name), (.int .i64 r.prio), (.bool r.inst), (Ah 12 Ak r.pkgs)] 41))], 5⟩) [0, 3, 36] 5 (by omega) ?_ ?_
   ·refine G1 (CS := [(8, ((!(decide (8 ≤ ((st.repos.map Av).length : Int)))) = true → (!(decide (8 ≤ ((st.repos.map Av).length : Int)))) = true)), (9, ((!(decide (8 ≤ ((st.repos.map Av).length : Int)))) = true → (!(decide (8 ≤ ((st.repos.map Av).length : Int)))) = true)), (10, ((!(decide (8 ≤ ((st.repos.map Av).length : Int)))) = true → (!(decide (8 ≤ ((st.repos.map Av).length : Int)))) = true)), (11, ((!(decide (8 ≤ ((st.repos.map Av).length : Int)))) = true → (!(decide (8 ≤ ((st.repos.map Av).length : Int)))) = true)), (13, ((!(decide (8 ≤ ((st.repos.map Av).length : Int)))) = true → (!(decide (8 ≤ ((st.repos.map Av).length : Int)))) = true)), (14, ((!(decide (8 ≤ ((st.repos.map Av).length : Int)))) = true → (!(decide (8 ≤ ((st.repos.map Av).length : Int)))) = true)), (15, ((!(decide (8 ≤ ((st.repos.map Av).length : Int)))) = true → ((!(decide (8 ≤ ((st.repos.map Av).length : Int)))) = true ∧ (!(decide (8 ≤ ((st.repos.map Av).length : Int)))) = true) ∧ (-9223372036854775808 ≤ ((st.all.map Am).length : Int) + (r.pkgs.length : Int) ∧ ((st.all.map Am).length : Int) + (r.pkgs.length : Int) ≤ 9223372036854775807))), (16, ((!(decide (8 ≤ ((st.repos.map Av).length : Int)))) = true → (!(decide (8 ≤ ((st.repos.map Av).length : Int)))) = true)), (17, ((decide (8 ≤ ((st.repos.map Av).length : Int))) = false → (!(decide (8 ≤ ((st.repos.map Av).length : Int)))) = true))]) [44, 45, 46, 47, 48, 49, 50, 51, 52, 53] [0, 3, 36] [] hk0 v0 (by refine cc _ ?_ <| cc _ ?_ <| cc _ ?_ <| cc _ ?_ <| cc _ ?_ <| cc _ ?_ <| cc _ ?_ <| cc _ ?_ <| cc _ ?_ c0 <;> first | omega | (simp; omega) | (simp; done) | (intros; simp_all; omega) | (intros; simp_all; done)) ?_
    refine ⟨by kernel_rfl, (by kernel_rfl)⟩
   ·rintro y1 rfl
    refine A9 (q := decide ((8 : Int) ≤ ((st.repos.map Av).length : Int)) || decide ((200 : Int) < ((st.all.map Am).length : Int) + (r.pkgs.length : Int))) (by kernel_rfl) (fun c3 => ?_) (fun c3 => ?_)
    ·try simp only [Al] at c3
     refine Aa [] [4] ?_
     refine Ag ?_
     refine Dd (.inl rfl) (al := [(.int .i64 68)]) (by kernel_rfl) ?_ ((by kernel_rfl : Cq 4 _ = some [(0, (.row [(.int .i64 st.kind), (.own 1), (.own 2), (.map 3)] 92)), (1, (.grow (st.repos.map Av) 41 4)), (2, (.grow (st.all.map Am) 97 13)), (3, (.mm (Au st.all) none 3 1))]).trans ?_)
     all_goals have hE : B2 st r = 68 := by unfold B2; rw [if_neg (by simp only [not_or]; simp_all), if_neg (by rintro ⟨h1, h2⟩; rw [h1, h2] at c2; simp at c2), if_pos (by omega)]
     ·rw [hE]; rfl
     ·rw [H7 hE (by decide)]
    ·try simp only [Al] at c3
     refine Ai ?_
     refine Ab ?_
     refine Aa [] [0, 3, 56, 57, 58] ?_
     refine A3 ?_
     refine Bs (fun g y => ∃ (i : Nat), i ≤ r.pkgs.length ∧ (∀ j, j < i → Dn (nth r.pkgs j) = 0) ∧ y = ⟨[(0, (.ptr 0 0)), (3, (.ptr 4 0)), (56, (Ah 12 Ak r.pkgs)), (57, (.int .i64 ((r.pkgs.length : Int)))), (58, (.int .i64 ((i : Int))))], [(0, (.row [(.int .i64 st.kind), (.own 1), (.own 2), (.map 3)] 92)), (1, (.grow (st.repos.map Av) 41 4)), (2, (.grow (st.all.map Am) 97 13)), (3, (.mm (Au st.all) none 3 1)), (4, (.row [(.str r.name), (.int .i64 r.prio), (.bool r.inst), (Ah 12 Ak r.pkgs)] 41))], 5⟩ ∧ g = r.pkgs.length - i) [0, 3, 56, 57, 58] 5 _ (by omega) ⟨0, (by omega), (by exact fun j hj => by omega), (by kernel_rfl), rfl⟩ ?_
     rintro g1 y1 ⟨i, f1_1, f1_2, rfl, rfl⟩
     refine Aa [] [0, 3, 56, 57, 58, 59] ?_
     refine Ab ?_
     refine A8 (p := (i : Int) < (r.pkgs.length : Int)) (by kernel_rfl) (fun c4 => ?_) (fun c4 => ?_)
     ·refine Ai ?_
      refine Ab ?_
      refine A3 ?_
      refine Ae [] [0, 3, 6, 56, 57, 58] [] hk0 v0 (cc 0 (p := (0 ≤ (i : Int) ∧ i < r.pkgs.length)) (by omega) <| c0) ?_
      refine Ae [] [0, 3, 7, 56, 57, 58] [(0, 6)] (hk 1 Q73 (X3r (nth r.pkgs i) (hp i (by omega))) <| hk0) v0 c0 ?_
      refine Aa [] [0, 3, 7, 56, 57, 58, 65] ?_
      refine Cj (p := (Dn (nth r.pkgs i)) = 0) (by kernel_rfl) (fun c5 => ?_) (fun c5 => ?_)
      ·refine Aa [] [4] ?_
       refine Ag ?_
       refine Dd (.inl rfl) (al := [(.int .i64 (Dn (nth r.pkgs i)))]) (by kernel_rfl) ?_ ((by kernel_rfl : Cq 4 _ = some [(0, (.row [(.int .i64 st.kind), (.own 1), (.own 2), (.map 3)] 92)), (1, (.grow (st.repos.map Av) 41 4)), (2, (.grow (st.all.map Am) 97 13)), (3, (.mm (Au st.all) none 3 1))]).trans ?_)
       all_goals have hE : B2 st r = Dn (nth r.pkgs i) := by unfold B2; rw [if_neg (by simp only [not_or]; simp_all), if_neg (by rintro ⟨h1, h2⟩; rw [h1, h2] at c2; simp at c2), if_neg (by omega)]; exact Rn (by omega) f1_2 (by assumption)
       ·rw [hE]; rfl
       ·rw [H7 hE (by assumption)]
      ·refine Ai ?_
       refine Ar ?_
       refine A2 0 [] [0, 3, 56, 57, 58] [] hk0 v0 (cc 0 (p := (-9223372036854775808 ≤ (i : Int) + 1 ∧ (i : Int) + 1 ≤ 9223372036854775807)) (by omega) <| c0) ?_
       refine ⟨by kernel_rfl, _, ?_, i + 1, ?_, ?_, (by kernel_rfl), rfl⟩
       ·omega
       ·omega
       ·intro j hj
        by_cases h : j = i
        ·subst h; simp_all
        ·exact f1_2 j (by omega)
     ·refine Bl ?_
      refine Ab ?_
      refine Aa [] [0, 3, 69, 70, 71] ?_
      refine A3 ?_
      refine Bs (fun g y => ∃ (i : Nat), i ≤ r.pkgs.length ∧ y = ⟨[(0, (.ptr 0 0)), (3, (.ptr 4 0)), (69, (Ah 12 Ak r.pkgs)), (70, (.int .i64 ((r.pkgs.length : Int)))), (71, (.int .i64 ((i : Int))))], [(0, (.row [(.int .i64 st.kind), (.own 1), (.own 2), (.map 3)] 92)), (1, (.grow (st.repos.map Av) 41 4)), (2, (.grow ((Ay st r i).map Am) 97 13)), (3, (.mm (Au (Ay st r i)) none 3 1)), (4, (.row [(.str r.name), (.int .i64 r.prio), (.bool r.inst), (Ah 12 Ak r.pkgs)] 41))], 5⟩ ∧ g = r.pkgs.length - i) [0, 3, 69, 70, 71] 5 _ (by omega) ⟨0, (by omega), (Eq.trans (b := (⟨[(0, (.ptr 0 0)), (3, (.ptr 4 0)), (69, (Ah 12 Ak r.pkgs)), (70, (.int .i64 ((r.pkgs.length : Int)))), (71, (.int .i64 0))], [(0, (.row [(.int .i64 st.kind), (.own 1), (.own 2), (.map 3)] 92)), (1, (.grow (st.repos.map Av) 41 4)), (2, (.grow (st.all.map Am) 97 13)), (3, (.mm (Au st.all) none 3 1)), (4, (.row [(.str r.name), (.int .i64 r.prio), (.bool r.inst), (Ah 12 Ak r.pkgs)] 41))], 5⟩ : St)) (by kernel_rfl) (by rw [show Ay st r 0 = st.all from by simp [Ay]] <;> rfl)), rfl⟩ ?_
      rintro g2 y2 ⟨i, f2_1, rfl, rfl⟩
      have hkl : ((Ay st r i).map Am).length ≤ 200 := by have := Q6g (st := st) (r := r) (i := i); rw [List.length_map]; omega
      have hgl : (Au (Ay st r i) (nth r.pkgs i).name).length ≤ 200 := Nat.le_trans (Q5m _ _) (by rwa [List.length_map] at hkl)
      refine Aa [] [0, 3, 69, 70, 71, 72] ?_
      refine Ab ?_
      refine A8 (p := (i : Int) < (r.pkgs.length : Int)) (by kernel_rfl) (fun c6 => ?_) (fun c6 => ?_)
      ·refine Ai ?_
       refine C7 (fun y => y = ⟨[(0, (.ptr 0 0)), (3, (.ptr 4 0)), (69, (Ah 12 Ak r.pkgs)), (70, (.int .i64 ((r.pkgs.length : Int)))), (71, (.int .i64 ((i : Int))))], [(0, (.row [(.int .i64 st.kind), (.own 1), (.own 2), (.map 3)] 92)), (1, (.grow (st.repos.map Av) 41 4)), (2, (.grow ((Ay st r i ++ [(nth r.pkgs i, (st.repos.length : Int))]).map Am) 97 13)), (3, (.mm (Au (Ay st r i ++ [(nth r.pkgs i, (st.repos.length : Int))])) none 3 1)), (4, (.row [(.str r.name), (.int .i64 r.prio), (.bool r.inst), (Ah 12 Ak r.pkgs)] 41))], 5⟩) [0, 3, 69, 70, 71] 5 (by omega) ?_ ?_
       ·refine A3 ?_
        refine Ae [] [0, 3, 9, 69, 70, 71] [] hk0 v0 (cc 0 (p := (0 ≤ (i : Int) ∧ i < r.pkgs.length)) (by omega) <| c0) ?_
        refine Pl 9 (y := ⟨[(0, (.ptr 0 0)), (3, (.ptr 4 0)), (9, (.fp (Ak (nth r.pkgs i)))), (69, (Ah 12 Ak r.pkgs)), (70, (.int .i64 ((r.pkgs.length : Int)))), (71, (.int .i64 ((i : Int))))], [(0, (.row [(.int .i64 st.kind), (.own 1), (.own 2), (.map 3)] 92)), (1, (.grow (st.repos.map Av) 41 4)), (2, (.grow ((Ay st r i).map Am) 97 13)), (3, (.mm (Au (Ay st r i)) none 3 1)), (4, (.row [(.str r.name), (.int .i64 r.prio), (.bool r.inst), (Ah 12 Ak r.pkgs)] 41))], 6⟩) (by kernel_rfl) ?_
        refine C7 (fun y => y = ⟨[(0, (.ptr 0 0)), (3, (.ptr 4 0)), (9, (.fp (Ak (nth r.pkgs i)))), (69, (Ah 12 Ak r.pkgs)), (70, (.int .i64 ((r.pkgs.length : Int)))), (71, (.int .i64 ((i : Int))))], [(0, (.row [(.int .i64 st.kind), (.own 1), (.own 2), (.map 3)] 92)), (1, (.grow (st.repos.map Av) 41 4)), (2, (.grow ((Ay st r i).map Am) 97 13)), (3, (.mm (Au (Ay st r i ++ [(nth r.pkgs i, (st.repos.length : Int))])) none 3 1)), (4, (.row [(.str r.name), (.int .i64 r.prio), (.bool r.inst), (Ah 12 Ak r.pkgs)] 41))], 6⟩) [0, 3, 9, 69, 70, 71] 6 (by omega) ?_ ?_
        ·refine Hr (by kernel_rfl) (fun F1 hF1 => ?_)
         refine Bn false 1 (lsD 21 [0, 1, 2, 3, 4, 5, 6, 7, 8, 9, 10, 11, 12, 13, 14, 15, 16, 17, 18, 19]) ⟨[(0, (.ptr 0 0)), (3, (.ptr 4 0)), (9, (.fp (Ak (nth r.pkgs i)))), (69, (Ah 12 Ak r.pkgs)), (70, (.int .i64 ((r.pkgs.length : Int)))), (71, (.int .i64 ((i : Int)))), (78, (.map 3)), (80, (.str ((nth r.pkgs i).name))), (94, (.own 6))], [(0, (.row [(.int .i64 st.kind), (.own 1), (.own 2), (.map 3)] 92)), (1, (.grow (st.repos.map Av) 41 4)), (2, (.grow ((Ay st r i).map Am) 97 13)), (3, (.mm (Au (Ay st r i)) (some ((nth r.pkgs i).name)) 3 1)), (4, (.row [(.str r.name), (.int .i64 r.prio), (.bool r.inst), (Ah 12 Ak r.pkgs)] 41)), (6, (.grow (((Au (Ay st r i)) ((nth r.pkgs i).name)) ++ ([(.int .i64 ((((Ay st r i).map Am).length : Int)))] : List AV)) 3 1)), (7, (.row [(.int .i64 ((((Ay st r i).map Am).length : Int)))] 3))], 8⟩ ?_ (fun m1_1 => ?_)
         ·refine Dt (fuel := 0) 20 (by kernel_rfl) ?_
          refine Bm (fuel := 0) 20 rfl ?_
          refine Pn (b := 3) (c := 6) (s := (nth r.pkgs i).name) (s1 := (nth r.pkgs i).name) (y := ⟨[(0, (.ptr 0 0)), (3, (.ptr 4 0)), (9, (.fp (Ak (nth r.pkgs i)))), (69, (Ah 12 Ak r.pkgs)), (70, (.int .i64 ((r.pkgs.length : Int)))), (71, (.int .i64 ((i : Int)))), (78, (.map 3)), (80, (.str ((nth r.pkgs i).name))), (94, (.own 6))], [(0, (.row [(.int .i64 st.kind), (.own 1), (.own 2), (.map 3)] 92)), (1, (.grow (st.repos.map Av) 41 4)), (2, (.grow ((Ay st r i).map Am) 97 13)), (3, (.mm (Dm (Au (Ay st r i)) ((nth r.pkgs i).name) (((Au (Ay st r i)) ((nth r.pkgs i).name)) ++ ([(.int .i64 ((((Ay st r i).map Am).length : Int)))] : List AV))) none 3 1)), (4, (.row [(.str r.name), (.int .i64 r.prio), (.bool r.inst), (Ah 12 Ak r.pkgs)] 41)), (7, (.row [(.int .i64 ((((Ay st r i).map Am).length : Int)))] 3))], 8⟩) (by kernel_rfl) (by kernel_rfl) (by kernel_rfl) (by kernel_rfl) (by kernel_rfl) rfl Tryz.underlying90 Tryz.underlying9 (by kernel_rfl) rfl ?_
          refine Be ⟨rfl, ?_⟩
          refine An [0, 3, 9, 69, 70, 71] ?_
          refine Gn (by kernel_rfl) ?_
          refine ⟨by kernel_rfl, (Eq.trans (b := (⟨[(0, (.ptr 0 0)), (3, (.ptr 4 0)), (9, (.fp (Ak (nth r.pkgs i)))), (69, (Ah 12 Ak r.pkgs)), (70, (.int .i64 ((r.pkgs.length : Int)))), (71, (.int .i64 ((i : Int))))], [(0, (.row [(.int .i64 st.kind), (.own 1), (.own 2), (.map 3)] 92)), (1, (.grow (st.repos.map Av) 41 4)), (2, (.grow ((Ay st r i).map Am) 97 13)), (3, (.mm (Dm (Au (Ay st r i)) ((nth r.pkgs i).name) (((Au (Ay st r i)) ((nth r.pkgs i).name)) ++ ([(.int .i64 ((((Ay st r i).map Am).length : Int)))] : List AV))) none 3 1)), (4, (.row [(.str r.name), (.int .i64 r.prio), (.bool r.inst), (Ah 12 Ak r.pkgs)] 41))], 6⟩ : St)) (by kernel_rfl) (by rw [show (Dm (Au (Ay st r i)) ((nth r.pkgs i).name) (((Au (Ay st r i)) ((nth r.pkgs i).name)) ++ ([(.int .i64 ((((Ay st r i).map Am).length : Int)))] : List AV))) = Au (Ay st r i ++ [(nth r.pkgs i, (st.repos.length : Int))]) from by (try rw [List.length_map]); exact Wy (Ay st r i) (nth r.pkgs i, (st.repos.length : Int))] <;> kernel_rfl))⟩
         refine Bn false 1 (lsD 21 [0, 1, 2, 3, 4, 5, 6, 7, 8, 9, 10, 11, 12, 13, 14, 15, 16, 17, 18, 19]) ⟨[(0, (.ptr 0 0)), (3, (.ptr 4 0)), (9, (.fp (Ak (nth r.pkgs i)))), (69, (Ah 12 Ak r.pkgs)), (70, (.int .i64 ((r.pkgs.length : Int)))), (71, (.int .i64 ((i : Int)))), (78, (.map 3)), (80, (.str ((nth r.pkgs i).name))), (94, (.own 7))], [(0, (.row [(.int .i64 st.kind), (.own 1), (.own 2), (.map 3)] 92)), (1, (.grow (st.repos.map Av) 41 4)), (2, (.grow ((Ay st r i).map Am) 97 13)), (3, (.mm (Au (Ay st r i)) (some ((nth r.pkgs i).name)) 3 1)), (4, (.row [(.str r.name), (.int .i64 r.prio), (.bool r.inst), (Ah 12 Ak r.pkgs)] 41)), (6, (.row [(.int .i64 ((((Ay st r i).map Am).length : Int)))] 3)), (7, (.grow (((Au (Ay st r i)) ((nth r.pkgs i).name)) ++ ([(.int .i64 ((((Ay st r i).map Am).length : Int)))] : List AV)) 3 1))], 8⟩ ?_ (fun m1_2 => ?_)
         ·refine Dt (fuel := 0) 20 (by kernel_rfl) ?_
          refine Bm (fuel := 0) 20 rfl ?_
          refine Pn (b := 3) (c := 7) (s := (nth r.pkgs i).name) (s1 := (nth r.pkgs i).name) (y := ⟨[(0, (.ptr 0 0)), (3, (.ptr 4 0)), (9, (.fp (Ak (nth r.pkgs i)))), (69, (Ah 12 Ak r.pkgs)), (70, (.int .i64 ((r.pkgs.length : Int)))), (71, (.int .i64 ((i : Int)))), (78, (.map 3)), (80, (.str ((nth r.pkgs i).name))), (94, (.own 7))], [(0, (.row [(.int .i64 st.kind), (.own 1), (.own 2), (.map 3)] 92)), (1, (.grow (st.repos.map Av) 41 4)), (2, (.grow ((Ay st r i).map Am) 97 13)), (3, (.mm (Dm (Au (Ay st r i)) ((nth r.pkgs i).name) (((Au (Ay st r i)) ((nth r.pkgs i).name)) ++ ([(.int .i64 ((((Ay st r i).map Am).length : Int)))] : List AV))) none 3 1)), (4, (.row [(.str r.name), (.int .i64 r.prio), (.bool r.inst), (Ah 12 Ak r.pkgs)] 41)), (6, (.row [(.int .i64 ((((Ay st r i).map Am).length : Int)))] 3))], 8⟩) (by kernel_rfl) (by kernel_rfl) (by kernel_rfl) (by kernel_rfl) (by kernel_rfl) rfl Tryz.underlying90 Tryz.underlying9 (by kernel_rfl) rfl ?_
          refine Be ⟨rfl, ?_⟩
          refine An [0, 3, 9, 69, 70, 71] ?_
          refine Gn (by kernel_rfl) ?_
          refine ⟨by kernel_rfl, (Eq.trans (b := (⟨[(0, (.ptr 0 0)), (3, (.ptr 4 0)), (9, (.fp (Ak (nth r.pkgs i)))), (69, (Ah 12 Ak r.pkgs)), (70, (.int .i64 ((r.pkgs.length : Int)))), (71, (.int .i64 ((i : Int))))], [(0, (.row [(.int .i64 st.kind), (.own 1), (.own 2), (.map 3)] 92)), (1, (.grow (st.repos.map Av) 41 4)), (2, (.grow ((Ay st r i).map Am) 97 13)), (3, (.mm (Dm (Au (Ay st r i)) ((nth r.pkgs i).name) (((Au (Ay st r i)) ((nth r.pkgs i).name)) ++ ([(.int .i64 ((((Ay st r i).map Am).length : Int)))] : List AV))) none 3 1)), (4, (.row [(.str r.name), (.int .i64 r.prio), (.bool r.inst), (Ah 12 Ak r.pkgs)] 41))], 6⟩ : St)) (by kernel_rfl) (by rw [show (Dm (Au (Ay st r i)) ((nth r.pkgs i).name) (((Au (Ay st r i)) ((nth r.pkgs i).name)) ++ ([(.int .i64 ((((Ay st r i).map Am).length : Int)))] : List AV))) = Au (Ay st r i ++ [(nth r.pkgs i, (st.repos.length : Int))]) from by (try rw [List.length_map]); exact Wy (Ay st r i) (nth r.pkgs i, (st.repos.length : Int))] <;> kernel_rfl))⟩
         refine Bn false 2 (lsD 21 [0, 1, 2, 3, 4, 5, 6, 7, 8, 9, 10, 11, 12, 13, 14, 15, 16, 17, 18]) ⟨[(0, (.ptr 0 0)), (3, (.ptr 4 0)), (9, (.fp (Ak (nth r.pkgs i)))), (69, (Ah 12 Ak r.pkgs)), (70, (.int .i64 ((r.pkgs.length : Int)))), (71, (.int .i64 ((i : Int)))), (78, (.map 3)), (80, (.str ((nth r.pkgs i).name))), (87, (.own 6)), (93, (.sl 7 0 1 1 false))], [(0, (.row [(.int .i64 st.kind), (.own 1), (.own 2), (.map 3)] 92)), (1, (.grow (st.repos.map Av) 41 4)), (2, (.grow ((Ay st r i).map Am) 97 13)), (3, (.mm (Au (Ay st r i)) (some ((nth r.pkgs i).name)) 3 1)), (4, (.row [(.str r.name), (.int .i64 r.prio), (.bool r.inst), (Ah 12 Ak r.pkgs)] 41)), (6, (.grow ((Au (Ay st r i)) ((nth r.pkgs i).name)) 3 1)), (7, (.row [(.int .i64 ((((Ay st r i).map Am).length : Int)))] 3))], 8⟩ ?_ (fun m1_3 => ?_)
         ·refine Cs (fuel := 1) 19 [] (hold (p := ((((Au (Ay st r i)) ((nth r.pkgs i).name)).length + 1) * 8 ≤ 140737488355328)) (by omega)) ?_
          refine An [0, 3, 9, 69, 70, 71, 78, 80, 94] ?_
          exact A1 m1_1
         refine Bn false 2 (lsD 21 [0, 1, 2, 3, 4, 5, 6, 7, 8, 9, 10, 11, 12, 13, 14, 15, 16, 17, 18]) ⟨[(0, (.ptr 0 0)), (3, (.ptr 4 0)), (9, (.fp (Ak (nth r.pkgs i)))), (69, (Ah 12 Ak r.pkgs)), (70, (.int .i64 ((r.pkgs.length : Int)))), (71, (.int .i64 ((i : Int)))), (78, (.map 3)), (80, (.str ((nth r.pkgs i).name))), (87, (.own 7)), (93, (.sl 6 0 1 1 false))], [(0, (.row [(.int .i64 st.kind), (.own 1), (.own 2), (.map 3)] 92)), (1, (.grow (st.repos.map Av) 41 4)), (2, (.grow ((Ay st r i).map Am) 97 13)), (3, (.mm (Au (Ay st r i)) (some ((nth r.pkgs i).name)) 3 1)), (4, (.row [(.str r.name), (.int .i64 r.prio), (.bool r.inst), (Ah 12 Ak r.pkgs)] 41)), (6, (.row [(.int .i64 ((((Ay st r i).map Am).length : Int)))] 3)), (7, (.grow ((Au (Ay st r i)) ((nth r.pkgs i).name)) 3 1))], 8⟩ ?_ (fun m1_4 => ?_)
         ·refine Cs (fuel := 1) 19 [] (hold (p := ((((Au (Ay st r i)) ((nth r.pkgs i).name)).length + 1) * 8 ≤ 140737488355328)) (by omega)) ?_
          refine An [0, 3, 9, 69, 70, 71, 78, 80, 94] ?_
          exact A1 m1_2
         refine Bn false 3 (lsD 21 [0, 1, 2, 3, 4, 5, 6, 7, 8, 9, 10, 11, 12, 13, 14, 15, 16, 17]) ⟨[(0, (.ptr 0 0)), (3, (.ptr 4 0)), (9, (.fp (Ak (nth r.pkgs i)))), (69, (Ah 12 Ak r.pkgs)), (70, (.int .i64 ((r.pkgs.length : Int)))), (71, (.int .i64 ((i : Int)))), (78, (.map 3)), (80, (.str ((nth r.pkgs i).name))), (87, (.own 6)), (92, (.int .i64 ((((Ay st r i).map Am).length : Int))))], [(0, (.row [(.int .i64 st.kind), (.own 1), (.own 2), (.map 3)] 92)), (1, (.grow (st.repos.map Av) 41 4)), (2, (.grow ((Ay st r i).map Am) 97 13)), (3, (.mm (Au (Ay st r i)) (some ((nth r.pkgs i).name)) 3 1)), (4, (.row [(.str r.name), (.int .i64 r.prio), (.bool r.inst), (Ah 12 Ak r.pkgs)] 41)), (6, (.grow ((Au (Ay st r i)) ((nth r.pkgs i).name)) 3 1))], 7⟩ ?_ (fun m1_5 => ?_)
         ·refine Cs (fuel := 2) 18 [] Aw ?_
          refine An [0, 3, 9, 69, 70, 71, 78, 80, 87, 93] ?_
          exact A1 m1_3
         refine Bn true 3 (lsD 21 [0, 1, 2, 3, 4, 5, 6, 7, 8, 9, 10, 11, 13, 14, 15, 16, 17, 18]) ⟨[(0, (.ptr 0 0)), (3, (.ptr 4 0)), (9, (.fp (Ak (nth r.pkgs i)))), (69, (Ah 12 Ak r.pkgs)), (70, (.int .i64 ((r.pkgs.length : Int)))), (71, (.int .i64 ((i : Int)))), (78, (.map 3)), (80, (.str ((nth r.pkgs i).name))), (84, (.map 3)), (86, (.str ((nth r.pkgs i).name))), (93, (.sl 6 0 1 1 false))], [(0, (.row [(.int .i64 st.kind), (.own 1), (.own 2), (.map 3)] 92)), (1, (.grow (st.repos.map Av) 41 4)), (2, (.grow ((Ay st r i).map Am) 97 13)), (3, (.mm (Au (Ay st r i)) none 3 1)), (4, (.row [(.str r.name), (.int .i64 r.prio), (.bool r.inst), (Ah 12 Ak r.pkgs)] 41)), (6, (.row [(.int .i64 ((((Ay st r i).map Am).length : Int)))] 3))], 7⟩ ?_ (fun m1_6 => ?_)
         ·refine Dt (fuel := 2) 12 (by kernel_rfl) ?_
          refine Bm (fuel := 2) 12 rfl ?_
          refine Es (b := 3) (s := (nth r.pkgs i).name) (y := ⟨[(0, (.ptr 0 0)), (3, (.ptr 4 0)), (9, (.fp (Ak (nth r.pkgs i)))), (69, (Ah 12 Ak r.pkgs)), (70, (.int .i64 ((r.pkgs.length : Int)))), (71, (.int .i64 ((i : Int)))), (78, (.map 3)), (80, (.str ((nth r.pkgs i).name))), (84, (.map 3)), (86, (.str ((nth r.pkgs i).name))), (93, (.sl 6 0 1 1 false)), (87, (.own 7))], [(0, (.row [(.int .i64 st.kind), (.own 1), (.own 2), (.map 3)] 92)), (1, (.grow (st.repos.map Av) 41 4)), (2, (.grow ((Ay st r i).map Am) 97 13)), (3, (.mm (Au (Ay st r i)) (some ((nth r.pkgs i).name)) 3 1)), (4, (.row [(.str r.name), (.int .i64 r.prio), (.bool r.inst), (Ah 12 Ak r.pkgs)] 41)), (6, (.row [(.int .i64 ((((Ay st r i).map Am).length : Int)))] 3)), (7, (.grow ((Au (Ay st r i)) ((nth r.pkgs i).name)) 3 1))], 8⟩) (by kernel_rfl) (by kernel_rfl) (by kernel_rfl) Tryz.underlying90 Tryz.underlying9 (fun _ => by kernel_rfl) (by kernel_rfl) ?_
          refine Be ⟨rfl, ?_⟩
          refine An [0, 3, 9, 69, 70, 71, 78, 80, 87, 93] ?_
          exact A1 m1_4
         refine Bn false 4 (lsD 21 [0, 1, 2, 3, 4, 5, 6, 7, 8, 9, 10, 11, 12, 13, 14, 15, 16]) ⟨[(0, (.ptr 0 0)), (3, (.ptr 4 0)), (9, (.fp (Ak (nth r.pkgs i)))), (69, (Ah 12 Ak r.pkgs)), (70, (.int .i64 ((r.pkgs.length : Int)))), (71, (.int .i64 ((i : Int)))), (78, (.map 3)), (80, (.str ((nth r.pkgs i).name))), (87, (.own 6)), (91, (.own 2))], [(0, (.row [(.int .i64 st.kind), (.own 1), (.own 2), (.map 3)] 92)), (1, (.grow (st.repos.map Av) 41 4)), (2, (.grow ((Ay st r i).map Am) 97 13)), (3, (.mm (Au (Ay st r i)) (some ((nth r.pkgs i).name)) 3 1)), (4, (.row [(.str r.name), (.int .i64 r.prio), (.bool r.inst), (Ah 12 Ak r.pkgs)] 41)), (6, (.grow ((Au (Ay st r i)) ((nth r.pkgs i).name)) 3 1))], 7⟩ ?_ (fun m1_7 => ?_)
         ·refine Cs (fuel := 3) 17 [] Aw ?_
          refine An [0, 3, 9, 69, 70, 71, 78, 80, 87, 92] ?_
          exact A1 m1_5
         refine Bn true 4 (lsD 21 [0, 1, 2, 3, 4, 5, 6, 7, 8, 9, 10, 11, 13, 14, 15, 16, 17]) ⟨[(0, (.ptr 0 0)), (3, (.ptr 4 0)), (9, (.fp (Ak (nth r.pkgs i)))), (69, (Ah 12 Ak r.pkgs)), (70, (.int .i64 ((r.pkgs.length : Int)))), (71, (.int .i64 ((i : Int)))), (78, (.map 3)), (80, (.str ((nth r.pkgs i).name))), (84, (.map 3)), (86, (.str ((nth r.pkgs i).name))), (92, (.int .i64 ((((Ay st r i).map Am).length : Int))))], [(0, (.row [(.int .i64 st.kind), (.own 1), (.own 2), (.map 3)] 92)), (1, (.grow (st.repos.map Av) 41 4)), (2, (.grow ((Ay st r i).map Am) 97 13)), (3, (.mm (Au (Ay st r i)) none 3 1)), (4, (.row [(.str r.name), (.int .i64 r.prio), (.bool r.inst), (Ah 12 Ak r.pkgs)] 41))], 6⟩ ?_ (fun m1_8 => ?_)
         ·refine Bp 12 18 (by kernel_rfl) ?_ ?_
          ·refine Bm (fuel := 3) 12 rfl ?_
           refine Es (b := 3) (s := (nth r.pkgs i).name) (y := ⟨[(0, (.ptr 0 0)), (3, (.ptr 4 0)), (9, (.fp (Ak (nth r.pkgs i)))), (69, (Ah 12 Ak r.pkgs)), (70, (.int .i64 ((r.pkgs.length : Int)))), (71, (.int .i64 ((i : Int)))), (78, (.map 3)), (80, (.str ((nth r.pkgs i).name))), (84, (.map 3)), (86, (.str ((nth r.pkgs i).name))), (92, (.int .i64 ((((Ay st r i).map Am).length : Int)))), (87, (.own 6))], [(0, (.row [(.int .i64 st.kind), (.own 1), (.own 2), (.map 3)] 92)), (1, (.grow (st.repos.map Av) 41 4)), (2, (.grow ((Ay st r i).map Am) 97 13)), (3, (.mm (Au (Ay st r i)) (some ((nth r.pkgs i).name)) 3 1)), (4, (.row [(.str r.name), (.int .i64 r.prio), (.bool r.inst), (Ah 12 Ak r.pkgs)] 41)), (6, (.grow ((Au (Ay st r i)) ((nth r.pkgs i).name)) 3 1))], 7⟩) (by kernel_rfl) (by kernel_rfl) (by kernel_rfl) Tryz.underlying90 Tryz.underlying9 (fun _ => by kernel_rfl) (by kernel_rfl) ?_
           refine Be ⟨rfl, ?_⟩
           refine An [0, 3, 9, 69, 70, 71, 78, 80, 87, 92] ?_
           exact A1 m1_5
          ·refine Bb (fuel := 3) 18 [] Aw ?_
           refine An [0, 3, 9, 69, 70, 71, 78, 80, 84, 86, 93] ?_
           exact A1 m1_6
         refine Bn true 4 (lsD 21 [0, 1, 2, 3, 4, 5, 6, 7, 8, 10, 11, 13, 14, 15, 16, 17, 18]) ⟨[(0, (.ptr 0 0)), (3, (.ptr 4 0)), (9, (.fp (Ak (nth r.pkgs i)))), (69, (Ah 12 Ak r.pkgs)), (70, (.int .i64 ((r.pkgs.length : Int)))), (71, (.int .i64 ((i : Int)))), (78, (.map 3)), (80, (.str ((nth r.pkgs i).name))), (83, (.ptr 0 3)), (86, (.str ((nth r.pkgs i).name))), (93, (.sl 6 0 1 1 false))], [(0, (.row [(.int .i64 st.kind), (.own 1), (.own 2), (.map 3)] 92)), (1, (.grow (st.repos.map Av) 41 4)), (2, (.grow ((Ay st r i).map Am) 97 13)), (3, (.mm (Au (Ay st r i)) none 3 1)), (4, (.row [(.str r.name), (.int .i64 r.prio), (.bool r.inst), (Ah 12 Ak r.pkgs)] 41)), (6, (.row [(.int .i64 ((((Ay st r i).map Am).length : Int)))] 3))], 7⟩ ?_ (fun m1_9 => ?_)
         ·refine Cs (fuel := 3) 9 [] Aw ?_
          refine An [0, 3, 9, 69, 70, 71, 78, 80, 84, 86, 93] ?_
          exact A1 m1_6
         refine Bn false 4 (lsD 21 [0, 1, 2, 4, 5, 6, 7, 8, 9, 10, 11, 12, 13, 14, 15, 16, 17]) ⟨[(0, (.ptr 0 0)), (3, (.ptr 4 0)), (9, (.fp (Ak (nth r.pkgs i)))), (69, (Ah 12 Ak r.pkgs)), (70, (.int .i64 ((r.pkgs.length : Int)))), (71, (.int .i64 ((i : Int)))), (77, (.ptr 0 3)), (80, (.str ((nth r.pkgs i).name))), (87, (.own 6)), (92, (.int .i64 ((((Ay st r i).map Am).length : Int))))], [(0, (.row [(.int .i64 st.kind), (.own 1), (.own 2), (.map 3)] 92)), (1, (.grow (st.repos.map Av) 41 4)), (2, (.grow ((Ay st r i).map Am) 97 13)), (3, (.mm (Au (Ay st r i)) (some ((nth r.pkgs i).name)) 3 1)), (4, (.row [(.str r.name), (.int .i64 r.prio), (.bool r.inst), (Ah 12 Ak r.pkgs)] 41)), (6, (.grow ((Au (Ay st r i)) ((nth r.pkgs i).name)) 3 1))], 7⟩ ?_ (fun m1_10 => ?_)
         ·refine Bp 3 18 (by kernel_rfl) ?_ ?_
          ·refine Bb (fuel := 3) 3 [] Aw ?_
           refine An [0, 3, 9, 69, 70, 71, 78, 80, 87, 92] ?_
           exact A1 m1_5
          ·refine Bb (fuel := 3) 18 [] Aw ?_
           refine An [0, 3, 9, 69, 70, 71, 77, 80, 87, 93] ?_
           refine Bp 3 19 (by kernel_rfl) ?_ ?_
           ·refine Bb (fuel := 2) 3 [] Aw ?_
            refine An [0, 3, 9, 69, 70, 71, 78, 80, 87, 93] ?_
            exact A1 m1_3
           ·refine Bb (fuel := 2) 19 [] (hold (p := ((((Au (Ay st r i)) ((nth r.pkgs i).name)).length + 1) * 8 ≤ 140737488355328)) (by omega)) ?_
            refine An [0, 3, 9, 69, 70, 71, 77, 80, 94] ?_
            refine Cs (fuel := 1) 3 [] Aw ?_
            refine An [0, 3, 9, 69, 70, 71, 78, 80, 94] ?_
            exact A1 m1_1
         refine Bn true 4 (lsD 21 [0, 1, 2, 4, 5, 6, 7, 8, 9, 10, 11, 13, 14, 15, 16, 17, 18]) ⟨[(0, (.ptr 0 0)), (3, (.ptr 4 0)), (9, (.fp (Ak (nth r.pkgs i)))), (69, (Ah 12 Ak r.pkgs)), (70, (.int .i64 ((r.pkgs.length : Int)))), (71, (.int .i64 ((i : Int)))), (77, (.ptr 0 3)), (80, (.str ((nth r.pkgs i).name))), (84, (.map 3)), (86, (.str ((nth r.pkgs i).name))), (93, (.sl 6 0 1 1 false))], [(0, (.row [(.int .i64 st.kind), (.own 1), (.own 2), (.map 3)] 92)), (1, (.grow (st.repos.map Av) 41 4)), (2, (.grow ((Ay st r i).map Am) 97 13)), (3, (.mm (Au (Ay st r i)) none 3 1)), (4, (.row [(.str r.name), (.int .i64 r.prio), (.bool r.inst), (Ah 12 Ak r.pkgs)] 41)), (6, (.row [(.int .i64 ((((Ay st r i).map Am).length : Int)))] 3))], 7⟩ ?_ (fun m1_11 => ?_)
         ·refine Bp 3 12 (by kernel_rfl) ?_ ?_
          ·refine Bb (fuel := 3) 3 [] Aw ?_
           refine An [0, 3, 9, 69, 70, 71, 78, 80, 84, 86, 93] ?_
           exact A1 m1_6
          ·refine Bm (fuel := 3) 12 rfl ?_
           refine Es (b := 3) (s := (nth r.pkgs i).name) (y := ⟨[(0, (.ptr 0 0)), (3, (.ptr 4 0)), (9, (.fp (Ak (nth r.pkgs i)))), (69, (Ah 12 Ak r.pkgs)), (70, (.int .i64 ((r.pkgs.length : Int)))), (71, (.int .i64 ((i : Int)))), (77, (.ptr 0 3)), (80, (.str ((nth r.pkgs i).name))), (84, (.map 3)), (86, (.str ((nth r.pkgs i).name))), (93, (.sl 6 0 1 1 false)), (87, (.own 7))], [(0, (.row [(.int .i64 st.kind), (.own 1), (.own 2), (.map 3)] 92)), (1, (.grow (st.repos.map Av) 41 4)), (2, (.grow ((Ay st r i).map Am) 97 13)), (3, (.mm (Au (Ay st r i)) (some ((nth r.pkgs i).name)) 3 1)), (4, (.row [(.str r.name), (.int .i64 r.prio), (.bool r.inst), (Ah 12 Ak r.pkgs)] 41)), (6, (.row [(.int .i64 ((((Ay st r i).map Am).length : Int)))] 3)), (7, (.grow ((Au (Ay st r i)) ((nth r.pkgs i).name)) 3 1))], 8⟩) (by kernel_rfl) (by kernel_rfl) (by kernel_rfl) Tryz.underlying90 Tryz.underlying9 (fun _ => by kernel_rfl) (by kernel_rfl) ?_
           refine Be ⟨rfl, ?_⟩
           refine An [0, 3, 9, 69, 70, 71, 77, 80, 87, 93] ?_
           refine Bp 3 19 (by kernel_rfl) ?_ ?_
           ·refine Bb (fuel := 2) 3 [] Aw ?_
            refine An [0, 3, 9, 69, 70, 71, 78, 80, 87, 93] ?_
            exact A1 m1_4
           ·refine Bb (fuel := 2) 19 [] (hold (p := ((((Au (Ay st r i)) ((nth r.pkgs i).name)).length + 1) * 8 ≤ 140737488355328)) (by omega)) ?_
            refine An [0, 3, 9, 69, 70, 71, 77, 80, 94] ?_
            refine Cs (fuel := 1) 3 [] Aw ?_
            refine An [0, 3, 9, 69, 70, 71, 78, 80, 94] ?_
            exact A1 m1_2
         refine Bn false 5 (lsD 21 [0, 1, 2, 3, 4, 5, 6, 7, 8, 9, 10, 11, 12, 13, 14, 15]) ⟨[(0, (.ptr 0 0)), (3, (.ptr 4 0)), (9, (.fp (Ak (nth r.pkgs i)))), (69, (Ah 12 Ak r.pkgs)), (70, (.int .i64 ((r.pkgs.length : Int)))), (71, (.int .i64 ((i : Int)))), (78, (.map 3)), (80, (.str ((nth r.pkgs i).name))), (87, (.own 6)), (90, (.ptr 0 2))], [(0, (.row [(.int .i64 st.kind), (.own 1), (.own 2), (.map 3)] 92)), (1, (.grow (st.repos.map Av) 41 4)), (2, (.grow ((Ay st r i).map Am) 97 13)), (3, (.mm (Au (Ay st r i)) (some ((nth r.pkgs i).name)) 3 1)), (4, (.row [(.str r.name), (.int .i64 r.prio), (.bool r.inst), (Ah 12 Ak r.pkgs)] 41)), (6, (.grow ((Au (Ay st r i)) ((nth r.pkgs i).name)) 3 1))], 7⟩ ?_ (fun m1_12 => ?_)
         ·refine Cs (fuel := 4) 16 [] Aw ?_
          refine An [0, 3, 9, 69, 70, 71, 78, 80, 87, 91] ?_
          exact A1 m1_7
         refine Bn true 5 (lsD 21 [0, 1, 2, 3, 4, 5, 6, 7, 8, 9, 10, 11, 13, 14, 15, 16]) ⟨[(0, (.ptr 0 0)), (3, (.ptr 4 0)), (9, (.fp (Ak (nth r.pkgs i)))), (69, (Ah 12 Ak r.pkgs)), (70, (.int .i64 ((r.pkgs.length : Int)))), (71, (.int .i64 ((i : Int)))), (78, (.map 3)), (80, (.str ((nth r.pkgs i).name))), (84, (.map 3)), (86, (.str ((nth r.pkgs i).name))), (91, (.own 2))], [(0, (.row [(.int .i64 st.kind), (.own 1), (.own 2), (.map 3)] 92)), (1, (.grow (st.repos.map Av) 41 4)), (2, (.grow ((Ay st r i).map Am) 97 13)), (3, (.mm (Au (Ay st r i)) none 3 1)), (4, (.row [(.str r.name), (.int .i64 r.prio), (.bool r.inst), (Ah 12 Ak r.pkgs)] 41))], 6⟩ ?_ (fun m1_13 => ?_)
         ·refine Bp 12 17 (by kernel_rfl) ?_ ?_
          ·refine Bm (fuel := 4) 12 rfl ?_
           refine Es (b := 3) (s := (nth r.pkgs i).name) (y := ⟨[(0, (.ptr 0 0)), (3, (.ptr 4 0)), (9, (.fp (Ak (nth r.pkgs i)))), (69, (Ah 12 Ak r.pkgs)), (70, (.int .i64 ((r.pkgs.length : Int)))), (71, (.int .i64 ((i : Int)))), (78, (.map 3)), (80, (.str ((nth r.pkgs i).name))), (84, (.map 3)), (86, (.str ((nth r.pkgs i).name))), (91, (.own 2)), (87, (.own 6))], [(0, (.row [(.int .i64 st.kind), (.own 1), (.own 2), (.map 3)] 92)), (1, (.grow (st.repos.map Av) 41 4)), (2, (.grow ((Ay st r i).map Am) 97 13)), (3, (.mm (Au (Ay st r i)) (some ((nth r.pkgs i).name)) 3 1)), (4, (.row [(.str r.name), (.int .i64 r.prio), (.bool r.inst), (Ah 12 Ak r.pkgs)] 41)), (6, (.grow ((Au (Ay st r i)) ((nth r.pkgs i).name)) 3 1))], 7⟩) (by kernel_rfl) (by kernel_rfl) (by kernel_rfl) Tryz.underlying90 Tryz.underlying9 (fun _ => by kernel_rfl) (by kernel_rfl) ?_
           refine Be ⟨rfl, ?_⟩
           refine An [0, 3, 9, 69, 70, 71, 78, 80, 87, 91] ?_
           exact A1 m1_7
          ·refine Bb (fuel := 4) 17 [] Aw ?_
           refine An [0, 3, 9, 69, 70, 71, 78, 80, 84, 86, 92] ?_
           exact A1 m1_8
         refine Bn true 5 (lsD 21 [0, 1, 2, 3, 4, 5, 6, 7, 8, 10, 11, 13, 14, 15, 16, 17]) ⟨[(0, (.ptr 0 0)), (3, (.ptr 4 0)), (9, (.fp (Ak (nth r.pkgs i)))), (69, (Ah 12 Ak r.pkgs)), (70, (.int .i64 ((r.pkgs.length : Int)))), (71, (.int .i64 ((i : Int)))), (78, (.map 3)), (80, (.str ((nth r.pkgs i).name))), (83, (.ptr 0 3)), (86, (.str ((nth r.pkgs i).name))), (92, (.int .i64 ((((Ay st r i).map Am).length : Int))))], [(0, (.row [(.int .i64 st.kind), (.own 1), (.own 2), (.map 3)] 92)), (1, (.grow (st.repos.map Av) 41 4)), (2, (.grow ((Ay st r i).map Am) 97 13)), (3, (.mm (Au (Ay st r i)) none 3 1)), (4, (.row [(.str r.name), (.int .i64 r.prio), (.bool r.inst), (Ah 12 Ak r.pkgs)] 41))], 6⟩ ?_ (fun m1_14 => ?_)
         ·refine Bp 9 18 (by kernel_rfl) ?_ ?_
          ·refine Bb (fuel := 4) 9 [] Aw ?_
           refine An [0, 3, 9, 69, 70, 71, 78, 80, 84, 86, 92] ?_
           exact A1 m1_8
          ·refine Bb (fuel := 4) 18 [] Aw ?_
           refine An [0, 3, 9, 69, 70, 71, 78, 80, 83, 86, 93] ?_
           exact A1 m1_9
         refine Bn false 5 (lsD 21 [0, 1, 2, 4, 5, 6, 7, 8, 9, 10, 11, 12, 13, 14, 15, 16]) ⟨[(0, (.ptr 0 0)), (3, (.ptr 4 0)), (9, (.fp (Ak (nth r.pkgs i)))), (69, (Ah 12 Ak r.pkgs)), (70, (.int .i64 ((r.pkgs.length : Int)))), (71, (.int .i64 ((i : Int)))), (77, (.ptr 0 3)), (80, (.str ((nth r.pkgs i).name))), (87, (.own 6)), (91, (.own 2))], [(0, (.row [(.int .i64 st.kind), (.own 1), (.own 2), (.map 3)] 92)), (1, (.grow (st.repos.map Av) 41 4)), (2, (.grow ((Ay st r i).map Am) 97 13)), (3, (.mm (Au (Ay st r i)) (some ((nth r.pkgs i).name)) 3 1)), (4, (.row [(.str r.name), (.int .i64 r.prio), (.bool r.inst), (Ah 12 Ak r.pkgs)] 41)), (6, (.grow ((Au (Ay st r i)) ((nth r.pkgs i).name)) 3 1))], 7⟩ ?_ (fun m1_15 => ?_)
         ·refine Bp 3 17 (by kernel_rfl) ?_ ?_
          ·refine Bb (fuel := 4) 3 [] Aw ?_
           refine An [0, 3, 9, 69, 70, 71, 78, 80, 87, 91] ?_
           exact A1 m1_7
          ·refine Bb (fuel := 4) 17 [] Aw ?_
           refine An [0, 3, 9, 69, 70, 71, 77, 80, 87, 92] ?_
           exact A1 m1_10
         refine Bn true 5 (lsD 21 [0, 1, 2, 4, 5, 6, 7, 8, 9, 10, 11, 13, 14, 15, 16, 17]) ⟨[(0, (.ptr 0 0)), (3, (.ptr 4 0)), (9, (.fp (Ak (nth r.pkgs i)))), (69, (Ah 12 Ak r.pkgs)), (70, (.int .i64 ((r.pkgs.length : Int)))), (71, (.int .i64 ((i : Int)))), (77, (.ptr 0 3)), (80, (.str ((nth r.pkgs i).name))), (84, (.map 3)), (86, (.str ((nth r.pkgs i).name))), (92, (.int .i64 ((((Ay st r i).map Am).length : Int))))], [(0, (.row [(.int .i64 st.kind), (.own 1), (.own 2), (.map 3)] 92)), (1, (.grow (st.repos.map Av) 41 4)), (2, (.grow ((Ay st r i).map Am) 97 13)), (3, (.mm (Au (Ay st r i)) none 3 1)), (4, (.row [(.str r.name), (.int .i64 r.prio), (.bool r.inst), (Ah 12 Ak r.pkgs)] 41))], 6⟩ ?_ (fun m1_16 => ?_)
         ·refine Fg 3 12 18 (by kernel_rfl) ?_ ?_ ?_
          ·refine Bb (fuel := 4) 3 [] Aw ?_
           refine An [0, 3, 9, 69, 70, 71, 78, 80, 84, 86, 92] ?_
           exact A1 m1_8
          ·refine Bm (fuel := 4) 12 rfl ?_
           refine Es (b := 3) (s := (nth r.pkgs i).name) (y := ⟨[(0, (.ptr 0 0)), (3, (.ptr 4 0)), (9, (.fp (Ak (nth r.pkgs i)))), (69, (Ah 12 Ak r.pkgs)), (70, (.int .i64 ((r.pkgs.length : Int)))), (71, (.int .i64 ((i : Int)))), (77, (.ptr 0 3)), (80, (.str ((nth r.pkgs i).name))), (84, (.map 3)), (86, (.str ((nth r.pkgs i).name))), (92, (.int .i64 ((((Ay st r i).map Am).length : Int)))), (87, (.own 6))], [(0, (.row [(.int .i64 st.kind), (.own 1), (.own 2), (.map 3)] 92)), (1, (.grow (st.repos.map Av) 41 4)), (2, (.grow ((Ay st r i).map Am) 97 13)), (3, (.mm (Au (Ay st r i)) (some ((nth r.pkgs i).name)) 3 1)), (4, (.row [(.str r.name), (.int .i64 r.prio), (.bool r.inst), (Ah 12 Ak r.pkgs)] 41)), (6, (.grow ((Au (Ay st r i)) ((nth r.pkgs i).name)) 3 1))], 7⟩) (by kernel_rfl) (by kernel_rfl) (by kernel_rfl) Tryz.underlying90 Tryz.underlying9 (fun _ => by kernel_rfl) (by kernel_rfl) ?_
           refine Be ⟨rfl, ?_⟩
           refine An [0, 3, 9, 69, 70, 71, 77, 80, 87, 92] ?_
           exact A1 m1_10
          ·refine Bb (fuel := 4) 18 [] Aw ?_
           refine An [0, 3, 9, 69, 70, 71, 77, 80, 84, 86, 93] ?_
           exact A1 m1_11
         refine Bn true 6 (lsD 21 [0, 1, 2, 3, 4, 5, 6, 7, 8, 9, 10, 11, 13, 14, 15]) ⟨[(0, (.ptr 0 0)), (3, (.ptr 4 0)), (9, (.fp (Ak (nth r.pkgs i)))), (69, (Ah 12 Ak r.pkgs)), (70, (.int .i64 ((r.pkgs.length : Int)))), (71, (.int .i64 ((i : Int)))), (78, (.map 3)), (80, (.str ((nth r.pkgs i).name))), (84, (.map 3)), (86, (.str ((nth r.pkgs i).name))), (90, (.ptr 0 2))], [(0, (.row [(.int .i64 st.kind), (.own 1), (.own 2), (.map 3)] 92)), (1, (.grow (st.repos.map Av) 41 4)), (2, (.grow ((Ay st r i).map Am) 97 13)), (3, (.mm (Au (Ay st r i)) none 3 1)), (4, (.row [(.str r.name), (.int .i64 r.prio), (.bool r.inst), (Ah 12 Ak r.pkgs)] 41))], 6⟩ ?_ (fun m1_17 => ?_)
         ·refine Bp 12 16 (by kernel_rfl) ?_ ?_
          ·refine Bm (fuel := 5) 12 rfl ?_
           refine Es (b := 3) (s := (nth r.pkgs i).name) (y := ⟨[(0, (.ptr 0 0)), (3, (.ptr 4 0)), (9, (.fp (Ak (nth r.pkgs i)))), (69, (Ah 12 Ak r.pkgs)), (70, (.int .i64 ((r.pkgs.length : Int)))), (71, (.int .i64 ((i : Int)))), (78, (.map 3)), (80, (.str ((nth r.pkgs i).name))), (84, (.map 3)), (86, (.str ((nth r.pkgs i).name))), (90, (.ptr 0 2)), (87, (.own 6))], [(0, (.row [(.int .i64 st.kind), (.own 1), (.own 2), (.map 3)] 92)), (1, (.grow (st.repos.map Av) 41 4)), (2, (.grow ((Ay st r i).map Am) 97 13)), (3, (.mm (Au (Ay st r i)) (some ((nth r.pkgs i).name)) 3 1)), (4, (.row [(.str r.name), (.int .i64 r.prio), (.bool r.inst), (Ah 12 Ak r.pkgs)] 41)), (6, (.grow ((Au (Ay st r i)) ((nth r.pkgs i).name)) 3 1))], 7⟩) (by kernel_rfl) (by kernel_rfl) (by kernel_rfl) Tryz.underlying90 Tryz.underlying9 (fun _ => by kernel_rfl) (by kernel_rfl) ?_
           refine Be ⟨rfl, ?_⟩
           refine An [0, 3, 9, 69, 70, 71, 78, 80, 87, 90] ?_
           exact A1 m1_12
          ·refine Bb (fuel := 5) 16 [] Aw ?_
           refine An [0, 3, 9, 69, 70, 71, 78, 80, 84, 86, 91] ?_
           exact A1 m1_13
         refine Bn true 6 (lsD 21 [0, 1, 2, 3, 4, 5, 6, 7, 8, 10, 11, 13, 14, 15, 16]) ⟨[(0, (.ptr 0 0)), (3, (.ptr 4 0)), (9, (.fp (Ak (nth r.pkgs i)))), (69, (Ah 12 Ak r.pkgs)), (70, (.int .i64 ((r.pkgs.length : Int)))), (71, (.int .i64 ((i : Int)))), (78, (.map 3)), (80, (.str ((nth r.pkgs i).name))), (83, (.ptr 0 3)), (86, (.str ((nth r.pkgs i).name))), (91, (.own 2))], [(0, (.row [(.int .i64 st.kind), (.own 1), (.own 2), (.map 3)] 92)), (1, (.grow (st.repos.map Av) 41 4)), (2, (.grow ((Ay st r i).map Am) 97 13)), (3, (.mm (Au (Ay st r i)) none 3 1)), (4, (.row [(.str r.name), (.int .i64 r.prio), (.bool r.inst), (Ah 12 Ak r.pkgs)] 41))], 6⟩ ?_ (fun m1_18 => ?_)
         ·refine Bp 9 17 (by kernel_rfl) ?_ ?_
          ·refine Bb (fuel := 5) 9 [] Aw ?_
           refine An [0, 3, 9, 69, 70, 71, 78, 80, 84, 86, 91] ?_
           exact A1 m1_13
          ·refine Bb (fuel := 5) 17 [] Aw ?_
           refine An [0, 3, 9, 69, 70, 71, 78, 80, 83, 86, 92] ?_
           exact A1 m1_14
         refine Bn true 6 (lsD 21 [0, 1, 2, 4, 5, 6, 7, 8, 9, 10, 11, 13, 14, 15, 16]) ⟨[(0, (.ptr 0 0)), (3, (.ptr 4 0)), (9, (.fp (Ak (nth r.pkgs i)))), (69, (Ah 12 Ak r.pkgs)), (70, (.int .i64 ((r.pkgs.length : Int)))), (71, (.int .i64 ((i : Int)))), (77, (.ptr 0 3)), (80, (.str ((nth r.pkgs i).name))), (84, (.map 3)), (86, (.str ((nth r.pkgs i).name))), (91, (.own 2))], [(0, (.row [(.int .i64 st.kind), (.own 1), (.own 2), (.map 3)] 92)), (1, (.grow (st.repos.map Av) 41 4)), (2, (.grow ((Ay st r i).map Am) 97 13)), (3, (.mm (Au (Ay st r i)) none 3 1)), (4, (.row [(.str r.name), (.int .i64 r.prio), (.bool r.inst), (Ah 12 Ak r.pkgs)] 41))], 6⟩ ?_ (fun m1_19 => ?_)
         ·refine Fg 3 12 17 (by kernel_rfl) ?_ ?_ ?_
          ·refine Bb (fuel := 5) 3 [] Aw ?_
           refine An [0, 3, 9, 69, 70, 71, 78, 80, 84, 86, 91] ?_
           exact A1 m1_13
          ·refine Bm (fuel := 5) 12 rfl ?_
           refine Es (b := 3) (s := (nth r.pkgs i).name) (y := ⟨[(0, (.ptr 0 0)), (3, (.ptr 4 0)), (9, (.fp (Ak (nth r.pkgs i)))), (69, (Ah 12 Ak r.pkgs)), (70, (.int .i64 ((r.pkgs.length : Int)))), (71, (.int .i64 ((i : Int)))), (77, (.ptr 0 3)), (80, (.str ((nth r.pkgs i).name))), (84, (.map 3)), (86, (.str ((nth r.pkgs i).name))), (91, (.own 2)), (87, (.own 6))], [(0, (.row [(.int .i64 st.kind), (.own 1), (.own 2), (.map 3)] 92)), (1, (.grow (st.repos.map Av) 41 4)), (2, (.grow ((Ay st r i).map Am) 97 13)), (3, (.mm (Au (Ay st r i)) (some ((nth r.pkgs i).name)) 3 1)), (4, (.row [(.str r.name), (.int .i64 r.prio), (.bool r.inst), (Ah 12 Ak r.pkgs)] 41)), (6, (.grow ((Au (Ay st r i)) ((nth r.pkgs i).name)) 3 1))], 7⟩) (by kernel_rfl) (by kernel_rfl) (by kernel_rfl) Tryz.underlying90 Tryz.underlying9 (fun _ => by kernel_rfl) (by kernel_rfl) ?_
           refine Be ⟨rfl, ?_⟩
           refine An [0, 3, 9, 69, 70, 71, 77, 80, 87, 91] ?_
           exact A1 m1_15
          ·refine Bb (fuel := 5) 17 [] Aw ?_
           refine An [0, 3, 9, 69, 70, 71, 77, 80, 84, 86, 92] ?_
           exact A1 m1_16
         refine Cp (fuel := 8) [] [0, 1, 2, 4, 5, 6, 7, 8, 10, 11, 13, 14, 15] [0, 3, 9, 69, 70, 71, 77, 80, 83, 86, 90] Aw ?_
         refine Fg 3 9 16 (by kernel_rfl) ?_ ?_ ?_
         ·refine Bb (fuel := 7) 3 [] Aw ?_
          refine An [0, 3, 9, 69, 70, 71, 78, 80, 83, 86, 90] ?_
          refine Bp 9 16 (by kernel_rfl) ?_ ?_
          ·refine Bb (fuel := 6) 9 [] Aw ?_
           refine An [0, 3, 9, 69, 70, 71, 78, 80, 84, 86, 90] ?_
           exact A1 m1_17
          ·refine Bb (fuel := 6) 16 [] Aw ?_
           refine An [0, 3, 9, 69, 70, 71, 78, 80, 83, 86, 91] ?_
           exact A1 m1_18
         ·refine Bb (fuel := 7) 9 [] Aw ?_
          refine An [0, 3, 9, 69, 70, 71, 77, 80, 84, 86, 90] ?_
          refine Fg 3 12 16 (by kernel_rfl) ?_ ?_ ?_
          ·refine Bb (fuel := 6) 3 [] Aw ?_
           refine An [0, 3, 9, 69, 70, 71, 78, 80, 84, 86, 90] ?_
           exact A1 m1_17
          ·refine Bm (fuel := 6) 12 rfl ?_
           refine Es (b := 3) (s := (nth r.pkgs i).name) (y := ⟨[(0, (.ptr 0 0)), (3, (.ptr 4 0)), (9, (.fp (Ak (nth r.pkgs i)))), (69, (Ah 12 Ak r.pkgs)), (70, (.int .i64 ((r.pkgs.length : Int)))), (71, (.int .i64 ((i : Int)))), (77, (.ptr 0 3)), (80, (.str ((nth r.pkgs i).name))), (84, (.map 3)), (86, (.str ((nth r.pkgs i).name))), (90, (.ptr 0 2)), (87, (.own 6))], [(0, (.row [(.int .i64 st.kind), (.own 1), (.own 2), (.map 3)] 92)), (1, (.grow (st.repos.map Av) 41 4)), (2, (.grow ((Ay st r i).map Am) 97 13)), (3, (.mm (Au (Ay st r i)) (some ((nth r.pkgs i).name)) 3 1)), (4, (.row [(.str r.name), (.int .i64 r.prio), (.bool r.inst), (Ah 12 Ak r.pkgs)] 41)), (6, (.grow ((Au (Ay st r i)) ((nth r.pkgs i).name)) 3 1))], 7⟩) (by kernel_rfl) (by kernel_rfl) (by kernel_rfl) Tryz.underlying90 Tryz.underlying9 (fun _ => by kernel_rfl) (by kernel_rfl) ?_
           refine Be ⟨rfl, ?_⟩
           refine An [0, 3, 9, 69, 70, 71, 77, 80, 87, 90] ?_
           refine Bp 3 16 (by kernel_rfl) ?_ ?_
           ·refine Bb (fuel := 5) 3 [] Aw ?_
            refine An [0, 3, 9, 69, 70, 71, 78, 80, 87, 90] ?_
            exact A1 m1_12
           ·refine Bb (fuel := 5) 16 [] Aw ?_
            refine An [0, 3, 9, 69, 70, 71, 77, 80, 87, 91] ?_
            exact A1 m1_15
          ·refine Bb (fuel := 6) 16 [] Aw ?_
           refine An [0, 3, 9, 69, 70, 71, 77, 80, 84, 86, 91] ?_
           exact A1 m1_19
         ·refine Bb (fuel := 7) 16 [] Aw ?_
          refine An [0, 3, 9, 69, 70, 71, 77, 80, 83, 86, 91] ?_
          refine Fg 3 9 17 (by kernel_rfl) ?_ ?_ ?_
          ·refine Bb (fuel := 6) 3 [] Aw ?_
           refine An [0, 3, 9, 69, 70, 71, 78, 80, 83, 86, 91] ?_
           exact A1 m1_18
          ·refine Bb (fuel := 6) 9 [] Aw ?_
           refine An [0, 3, 9, 69, 70, 71, 77, 80, 84, 86, 91] ?_
           exact A1 m1_19
          ·refine Bb (fuel := 6) 17 [] Aw ?_
           refine An [0, 3, 9, 69, 70, 71, 77, 80, 83, 86, 92] ?_
           refine Fg 3 9 18 (by kernel_rfl) ?_ ?_ ?_
           ·refine Bb (fuel := 5) 3 [] Aw ?_
            refine An [0, 3, 9, 69, 70, 71, 78, 80, 83, 86, 92] ?_
            exact A1 m1_14
           ·refine Bb (fuel := 5) 9 [] Aw ?_
            refine An [0, 3, 9, 69, 70, 71, 77, 80, 84, 86, 92] ?_
            exact A1 m1_16
           ·refine Bb (fuel := 5) 18 [] Aw ?_
            refine An [0, 3, 9, 69, 70, 71, 77, 80, 83, 86, 93] ?_
            refine Bp 3 9 (by kernel_rfl) ?_ ?_
            ·refine Bb (fuel := 4) 3 [] Aw ?_
             refine An [0, 3, 9, 69, 70, 71, 78, 80, 83, 86, 93] ?_
             exact A1 m1_9
            ·refine Bb (fuel := 4) 9 [] Aw ?_
             refine An [0, 3, 9, 69, 70, 71, 77, 80, 84, 86, 93] ?_
             exact A1 m1_11
        ·rintro y3 rfl
         refine G1 [] [0, 3, 69, 70, 71] [] (hk 6 Jw (J0 (nth r.pkgs i) (by have := (nth r.pkgs i).sizes; have := hp i (by omega); omega) (by have := (nth r.pkgs i).sizes; have := Fb (nth r.pkgs i).files; have := hp i (by omega); omega)) <| hk0) v0 (cc 14 (p := ((((Ay st r i).map Am).length + 1) * 264 ≤ 140737488355328)) (by omega) <| c0) ?_
         refine ⟨by kernel_rfl, (Eq.trans (b := (⟨[(0, (.ptr 0 0)), (3, (.ptr 4 0)), (69, (Ah 12 Ak r.pkgs)), (70, (.int .i64 ((r.pkgs.length : Int)))), (71, (.int .i64 ((i : Int))))], [(0, (.row [(.int .i64 st.kind), (.own 1), (.own 2), (.map 3)] 92)), (1, (.grow (st.repos.map Av) 41 4)), (2, (.grow (((Ay st r i).map Am) ++ ([(.agg [(.str ((nth r.pkgs i).name)), (.str ((nth r.pkgs i).evr)), (.str ((nth r.pkgs i).arch)), (.str ((nth r.pkgs i).vendor)), (Ah 5 Az ((nth r.pkgs i).provides)), (Ah 5 Az ((nth r.pkgs i).requires)), (Ah 5 Az ((nth r.pkgs i).pre)), (Ah 5 Az ((nth r.pkgs i).conflicts)), (Ah 5 Az ((nth r.pkgs i).obsoletes)), (Ah 5 Az ((nth r.pkgs i).recommends)), (Ah 5 Az ((nth r.pkgs i).supplements)), (Ch ((nth r.pkgs i).files)), (.int .i64 (((st.repos.map Av).length : Int)))])] : List AV)) 97 13)), (3, (.mm (Au (Ay st r i ++ [(nth r.pkgs i, (st.repos.length : Int))])) none 3 1)), (4, (.row [(.str r.name), (.int .i64 r.prio), (.bool r.inst), (Ah 12 Ak r.pkgs)] 41))], 5⟩ : St)) (by kernel_rfl) (by rw [show (((Ay st r i).map Am) ++ ([(.agg [(.str ((nth r.pkgs i).name)), (.str ((nth r.pkgs i).evr)), (.str ((nth r.pkgs i).arch)), (.str ((nth r.pkgs i).vendor)), (Ah 5 Az ((nth r.pkgs i).provides)), (Ah 5 Az ((nth r.pkgs i).requires)), (Ah 5 Az ((nth r.pkgs i).pre)), (Ah 5 Az ((nth r.pkgs i).conflicts)), (Ah 5 Az ((nth r.pkgs i).obsoletes)), (Ah 5 Az ((nth r.pkgs i).recommends)), (Ah 5 Az ((nth r.pkgs i).supplements)), (Ch ((nth r.pkgs i).files)), (.int .i64 (((st.repos.map Av).length : Int)))])] : List AV)) = (Ay st r i ++ [(nth r.pkgs i, (st.repos.length : Int))]).map Am from by rw [List.map_append, List.length_map]; rfl] <;> kernel_rfl))⟩
       ·rintro y2 rfl
        refine Ar ?_
        refine A2 0 [] [0, 3, 69, 70, 71] [] hk0 v0 (cc 0 (p := (-9223372036854775808 ≤ (i : Int) + 1 ∧ (i : Int) + 1 ≤ 9223372036854775807)) (by omega) <| c0) ?_
        refine ⟨by kernel_rfl, _, ?_, i + 1, ?_, (Eq.trans (b := (⟨[(0, (.ptr 0 0)), (3, (.ptr 4 0)), (69, (Ah 12 Ak r.pkgs)), (70, (.int .i64 ((r.pkgs.length : Int)))), (71, (.int .i64 ((i : Int) + 1)))], [(0, (.row [(.int .i64 st.kind), (.own 1), (.own 2), (.map 3)] 92)), (1, (.grow (st.repos.map Av) 41 4)), (2, (.grow ((Ay st r i ++ [(nth r.pkgs i, (st.repos.length : Int))]).map Am) 97 13)), (3, (.mm (Au (Ay st r i ++ [(nth r.pkgs i, (st.repos.length : Int))])) none 3 1)), (4, (.row [(.str r.name), (.int .i64 r.prio), (.bool r.inst), (Ah 12 Ak r.pkgs)] 41))], 5⟩ : St)) (by kernel_rfl) (by rw [← Q6f (by omega)] <;> kernel_rfl)), rfl⟩
        ·omega
        ·omega
      ·refine Bl ?_
       refine Aa [] [0, 3] ?_
       refine C7 (fun y => y = ⟨[], [(0, (.row [(.int .i64 st.kind), (.own 1), (.own 2), (.map 3)] 92)), (1, (.grow ((st.repos ++ [r]).map Av) 41 4)), (2, (.grow ((Ay st r i).map Am) 97 13)), (3, (.mm (Au (Ay st r i)) none 3 1)), (4, (.row [(.str r.name), (.int .i64 r.prio), (.bool r.inst), .nils] 41))], 5⟩) [] 5 (by omega) ?_ ?_
       ·refine G1 [] [] [] hk0 v0 (cc 7 (p := (((st.repos.map Av).length + 1) * 56 ≤ 140737488355328)) (by omega) <| c0) ?_
        refine ⟨by kernel_rfl, (Eq.trans (b := (⟨[], [(0, (.row [(.int .i64 st.kind), (.own 1), (.own 2), (.map 3)] 92)), (1, (.grow ((st.repos.map Av) ++ ([(.agg [(.str r.name), (.int .i64 r.prio), (.bool r.inst), .nils])] : List AV)) 41 4)), (2, (.grow ((Ay st r i).map Am) 97 13)), (3, (.mm (Au (Ay st r i)) none 3 1)), (4, (.row [(.str r.name), (.int .i64 r.prio), (.bool r.inst), .nils] 41))], 5⟩ : St)) (by kernel_rfl) (by rw [show ((st.repos.map Av) ++ ([(.agg [(.str r.name), (.int .i64 r.prio), (.bool r.inst), .nils])] : List AV)) = (st.repos ++ [r]).map Av from by rw [List.map_append]; rfl] <;> kernel_rfl))⟩
       ·rintro y4 rfl
        refine Aa [] [4] ?_
        refine Ag ?_
        refine Dd (.inl rfl) (al := [(.int .i64 0)]) (by kernel_rfl) ?_ ((by kernel_rfl : Cq 4 _ = some [(0, (.row [(.int .i64 st.kind), (.own 1), (.own 2), (.map 3)] 92)), (1, (.grow ((st.repos ++ [r]).map Av) 41 4)), (2, (.grow ((Ay st r i).map Am) 97 13)), (3, (.mm (Au (Ay st r i)) none 3 1))]).trans ?_)
        all_goals have hE : B2 st r = 0 := by unfold B2; rw [if_neg (by simp only [not_or]; simp_all), if_neg (by rintro ⟨h1, h2⟩; rw [h1, h2] at c2; simp at c2), if_neg (by omega)]; exact Yc fun j hj => f1_2 j (by omega)
        ·rw [hE]; rfl
        ·unfold Bk; rw [if_pos hE, show i = r.pkgs.length from by omega]
end Sv
end Go.Proofs.YtlfjokcbkopfeaaGreatDoor
end
section
namespace Go.Proofs.YtlfjokcbkopfeaaGreatDoor
open Go Go.RowKit
namespace Sv
attribute [local irreducible] SW SO Bg
set_option maxHeartbeats 1000000
set_option maxRecDepth 100000
theorem Yx : As Tryz.prog 41 := Ax Tryz.func41 (by kernel_rfl) rfl
noncomputable def atX (p : Int × Int) : AV := .agg [.int .i64 p.1, .int .i64 p.2]
def Cr (pl : List (Int × Int)) (st : PoolT) (r : RepoT) (i : Nat) : List (Int × Int) := pl ++ (List.range i).map fun (k : Nat) => ((st.repos.length : Int), (k : Int))
def D1 (pl : List (Int × Int)) (st : PoolT) (r : RepoT) : List (Int × Int) := if B2 st r = 0 then Cr pl st r r.pkgs.length else pl
theorem My {pl : List (Int × Int)} {st : PoolT} {r : RepoT} {e : Int} (h : B2 st r = e) (he : e ≠ 0) : D1 pl st r = pl := by unfold D1; rw [if_neg (by rw [h]; exact he)]
theorem X0x {pl : List (Int × Int)} {st : PoolT} {r : RepoT} {i : Nat} : Cr pl st r (i + 1) = Cr pl st r i ++ [((st.repos.length : Int), (i : Int))] := by
 unfold Cr
 rw [List.range_succ, List.map_append, List.append_assoc]; rfl
theorem X0y {pl : List (Int × Int)} {st : PoolT} {r : RepoT} {i : Nat} : (Cr pl st r i).length = pl.length + i := by unfold Cr; simp
theorem Q0n {α : Type} [Inhabited α] {p : α → Bool} {l : List α} {i : Nat} (hi : i < l.length) (h : p (nth l i) = true) : l.any p = true := by
 rw [List.any_eq_true]
 exact ⟨nth l i, by simp [nth, hi], h⟩
theorem J4 {α : Type} [Inhabited α] {p : α → Bool} {l : List α} (h : ∀ i, i < l.length → p (nth l i) = false) : l.any p = false := by
 rw [List.any_eq_false]
 intro x hx
 obtain ⟨j, hj, rfl⟩ := List.getElem_of_mem hx
 have := h j hj
 simpa [nth, hj] using this
theorem Uv (st : PoolT) (pl : List (Int × Int)) (r : RepoT) (hr : st.repos.length ≤ 8) (ha : st.all.length ≤ 200) (hpa : pl.length = st.all.length) (hn : r.name.length ≤ 4194304) (hpl : r.pkgs.length ≤ 4194304) (hp : ∀ i, i < r.pkgs.length → (nth r.pkgs i).size ≤ 4194304) :
  Dj Tryz.prog 41 [(.ptr 0 0), (.agg [(.str r.name), (.int .i64 r.prio), (.bool r.inst), (Ah 12 Ak r.pkgs)])] [(0, (.row [(.int .i64 st.kind), (.own 1), (.own 2)] 107)), (1, (.grow (st.repos.map A5) 41 4)), (2, (.grow (pl.map atX) 128 2))] 3 (.int .i64 (B2 st r)) [(0, (.row [(.int .i64 ((Bk st r).kind)), (.own 1), (.own 2)] 107)), (1, (.grow ((Bk st r).repos.map A5) 41 4)), (2, (.grow ((D1 pl st r).map atX) 128 2))] := by
 have hml : (st.repos.map A5).length = st.repos.length := List.length_map _
 have hma : (pl.map atX).length = pl.length := List.length_map _
 refine Fh [.tmp 4] Tryz.func41 rfl Tryz.ntmps41 rfl rfl (by kernel_rfl) (by kernel_rfl) (by kernel_rfl) (fun B F hF => ?_)
 refine Ae [] [0, 3] [(1, 3)] hk0 v0 c0 ?_
 refine Ae [] [0, 3, 5] [] (hk 2 Ml (Nq r.name (by omega)) <| hk0) v0 c0 ?_
 refine Ab ?_
 refine Aa [] [0, 3, 15] ?_
 refine A9 (q := !(Bf r.name)) (by kernel_rfl) (fun c1 => ?_) (fun c1 => ?_)
 ·try simp only [Al] at c1
  refine Aa [] [4] ?_
  refine Ag ?_
  refine Dd (.inl rfl) (al := [(.int .i64 66)]) (by kernel_rfl) ?_ ((by kernel_rfl : Cq 3 _ = some [(0, (.row [(.int .i64 st.kind), (.own 1), (.own 2)] 107)), (1, (.grow (st.repos.map A5) 41 4)), (2, (.grow (pl.map atX) 128 2))]).trans ?_)
  all_goals have hE : B2 st r = 66 := by unfold B2; rw [if_pos (.inl c1)]
  ·rw [hE]; rfl
  ·rw [H7 hE (by decide), My hE (by decide)]
 ·try simp only [Al] at c1
  refine Ai ?_
  refine Ab ?_
  refine Aa [] [0, 3, 6] ?_
  refine A3 ?_
  refine Bs (fun g y => ∃ (i : Nat), i ≤ st.repos.length ∧ (∀ j, j < i → ¬ (nth st.repos j).name = r.name) ∧ y = ⟨[(0, (.ptr 0 0)), (3, (.fp (.agg [(.str r.name), (.int .i64 r.prio), (.bool r.inst), (Ah 12 Ak r.pkgs)]))), (6, (.int .i64 ((i : Int))))], [(0, (.row [(.int .i64 st.kind), (.own 1), (.own 2)] 107)), (1, (.grow (st.repos.map A5) 41 4)), (2, (.grow (pl.map atX) 128 2))], 4⟩ ∧ g = st.repos.length - i) [0, 3, 6] 4 _ (by omega) ⟨0, (by omega), (by exact fun j hj => by omega), (by kernel_rfl), rfl⟩ ?_
  rintro g1 y1 ⟨i, f1_1, f1_2, rfl, rfl⟩
  refine Ab ?_
  refine Aa [] [0, 3, 6, 22] ?_
  refine A8 (p := (i : Int) < ((st.repos.map A5).length : Int)) (by kernel_rfl) (fun c2 => ?_) (fun c2 => ?_)
  ·refine Ai ?_
   refine Ab ?_
   refine A3 ?_
   refine Ab ?_
   refine Hr (by kernel_rfl) (fun F1 hF1 => ?_)
   refine Cp (fuel := 5) [] [0, 1, 2, 4, 8, 9] [0, 3, 6, 27, 29, 34] Aw ?_
   refine Cs (fuel := 4) 3 [] Aw ?_
   refine Dt (fuel := 3) 5 (by kernel_rfl) ?_
   refine Bm (fuel := 3) 5 rfl ?_
   refine Et (b := 1) (i := i) (es := st.repos.map A5) (e := 41) (sz := 4) (k := .i64) (s' := [(0, (.ptr 0 0)), (3, (.fp (.agg [(.str r.name), (.int .i64 r.prio), (.bool r.inst), (Ah 12 Ak r.pkgs)]))), (6, (.int .i64 ((i : Int)))), (27, (.ptr 0 1)), (29, (.int .i64 ((i : Int)))), (34, (.str r.name)), (28, (.own 1)), (30, (.op 1 (i * 4)))]) (by kernel_rfl) (by kernel_rfl) (by kernel_rfl) (by kernel_rfl) (by kernel_rfl) (by kernel_rfl) (by (rw [List.length_map]; omega)) (by kernel_rfl) ?_
   refine Be ⟨rfl, ?_⟩
   refine Dt (fuel := 2) 6 (by kernel_rfl) ?_
   refine Bm (fuel := 2) 6 rfl ?_
   refine E2 (b := 1) (o := i * 4) (off := 0) (s' := [(0, (.ptr 0 0)), (3, (.fp (.agg [(.str r.name), (.int .i64 r.prio), (.bool r.inst), (Ah 12 Ak r.pkgs)]))), (6, (.int .i64 ((i : Int)))), (27, (.ptr 0 1)), (29, (.int .i64 ((i : Int)))), (34, (.str r.name)), (28, (.own 1)), (30, (.op 1 (i * 4))), (31, (.op 1 (i * 4 + 0)))]) (by kernel_rfl) (by kernel_rfl) (by kernel_rfl) (by kernel_rfl) ?_
   refine Be ⟨rfl, ?_⟩
   refine Dt (fuel := 1) 7 (by kernel_rfl) ?_
   refine Bm (fuel := 1) 7 rfl ?_
   refine E1 (b := 1) (e := 41) (sz := 4) (es := st.repos.map A5) (o := i * 4 + 0) (i := i) (j := 0) (a := (.agg [(.str ((nth st.repos i).name)), (.int .i64 ((nth st.repos i).prio)), (.bool ((nth st.repos i).inst)), (Ah 12 Ak ((nth st.repos i).pkgs))])) (r := (.str ((nth st.repos i).name))) (s' := [(0, (.ptr 0 0)), (3, (.fp (.agg [(.str r.name), (.int .i64 r.prio), (.bool r.inst), (Ah 12 Ak r.pkgs)]))), (6, (.int .i64 ((i : Int)))), (27, (.ptr 0 1)), (29, (.int .i64 ((i : Int)))), (34, (.str r.name)), (28, (.own 1)), (30, (.op 1 (i * 4))), (31, (.op 1 (i * 4 + 0))), (32, (.str ((nth st.repos i).name)))]) (by kernel_rfl) (by kernel_rfl) rfl (by kernel_rfl) (Eo (l := st.repos) A5 (by omega)) (by kernel_rfl) (by kernel_rfl) ?_
   refine Be ⟨rfl, ?_⟩
   refine Cp (fuel := 0) [] [10] [0, 3, 6, 35] Aw ?_
   refine An [0, 3, 6, 35] ?_
   refine Gn (by kernel_rfl) ?_
   refine A8 (p := (nth st.repos i).name = r.name) (by kernel_rfl) (fun c3 => ?_) (fun c3 => ?_)
   ·refine Aa [] [4] ?_
    refine Ag ?_
    refine Dd (.inl rfl) (al := [(.int .i64 66)]) (by kernel_rfl) ?_ ((by kernel_rfl : Cq 3 _ = some [(0, (.row [(.int .i64 st.kind), (.own 1), (.own 2)] 107)), (1, (.grow (st.repos.map A5) 41 4)), (2, (.grow (pl.map atX) 128 2))]).trans ?_)
    all_goals have hE : B2 st r = 66 := by unfold B2; rw [if_pos (.inr (Q0n (i := i) (by omega) (decide_eq_true (by assumption))))]
    ·rw [hE]; rfl
    ·rw [H7 hE (by decide), My hE (by decide)]
   ·refine Ai ?_
    refine Ar ?_
    refine A2 0 [] [0, 3, 6] [] hk0 v0 (cc 1 (p := (-9223372036854775808 ≤ (i : Int) + 1 ∧ (i : Int) + 1 ≤ 9223372036854775807)) (by omega) <| c0) ?_
    refine ⟨by kernel_rfl, _, ?_, i + 1, ?_, ?_, (by kernel_rfl), rfl⟩
    ·omega
    ·omega
    ·intro j hj
     by_cases h : j = i
     ·subst h; assumption
     ·exact f1_2 j (by omega)
  ·refine Bl ?_
   refine Ab ?_
   refine Aa [] [0, 3, 7] ?_
   refine A3 ?_
   refine Bs (fun g y => ∃ (i : Nat), i ≤ st.repos.length ∧ (∀ j, j < i → (r.inst && (nth st.repos j).inst) = false) ∧ y = ⟨[(0, (.ptr 0 0)), (3, (.fp (.agg [(.str r.name), (.int .i64 r.prio), (.bool r.inst), (Ah 12 Ak r.pkgs)]))), (7, (.int .i64 ((i : Int))))], [(0, (.row [(.int .i64 st.kind), (.own 1), (.own 2)] 107)), (1, (.grow (st.repos.map A5) 41 4)), (2, (.grow (pl.map atX) 128 2))], 4⟩ ∧ g = st.repos.length - i) [0, 3, 7] 4 _ (by omega) ⟨0, (by omega), (by exact fun j hj => by omega), (by kernel_rfl), rfl⟩ ?_
   rintro g2 y2 ⟨i, f2_1, f2_2, rfl, rfl⟩
   refine Ab ?_
   refine Aa [] [0, 3, 7, 42] ?_
   refine A8 (p := (i : Int) < ((st.repos.map A5).length : Int)) (by kernel_rfl) (fun c4 => ?_) (fun c4 => ?_)
   ·refine Ai ?_
    refine Ab ?_
    refine A3 ?_
    refine Ab ?_
    refine Ar ?_
    refine Bj 3 0 [] [0, 3, 7, 47] [] hk0 v0 c0 ?_
    refine Pb r.inst (fun c5 => ?_) (fun c5 => ?_)
    ·refine Ff 47 (a := .bool r.inst) (.bool true) (by kernel_rfl) (Imp.of_eq (by rw [c5])) ?_
     refine Bj 5 3 [] [0, 3, 7, 47, 51, 52] [] hk0 v0 c0 ?_
     refine Et (b := 1) (i := i) (es := st.repos.map A5) (e := 41) (sz := 4) (k := .i64) (s' := [(0, (.ptr 0 0)), (3, (.fp (.agg [(.str r.name), (.int .i64 r.prio), (.bool r.inst), (Ah 12 Ak r.pkgs)]))), (7, (.int .i64 ((i : Int)))), (47, (.bool true)), (51, (.own 1)), (52, (.int .i64 ((i : Int)))), (53, (.op 1 (i * 4)))]) (by kernel_rfl) (by kernel_rfl) (by kernel_rfl) (by kernel_rfl) (by kernel_rfl) (by kernel_rfl) (by (rw [List.length_map]; omega)) (by kernel_rfl) ?_
     refine E2 (b := 1) (o := i * 4) (off := 2) (s' := [(0, (.ptr 0 0)), (3, (.fp (.agg [(.str r.name), (.int .i64 r.prio), (.bool r.inst), (Ah 12 Ak r.pkgs)]))), (7, (.int .i64 ((i : Int)))), (47, (.bool true)), (51, (.own 1)), (52, (.int .i64 ((i : Int)))), (53, (.op 1 (i * 4))), (54, (.op 1 (i * 4 + 2)))]) (by kernel_rfl) (by kernel_rfl) (by kernel_rfl) (by kernel_rfl) ?_
     refine E1 (b := 1) (e := 41) (sz := 4) (es := st.repos.map A5) (o := i * 4 + 2) (i := i) (j := 2) (a := (.agg [(.str ((nth st.repos i).name)), (.int .i64 ((nth st.repos i).prio)), (.bool ((nth st.repos i).inst)), (Ah 12 Ak ((nth st.repos i).pkgs))])) (r := (.bool ((nth st.repos i).inst))) (s' := [(0, (.ptr 0 0)), (3, (.fp (.agg [(.str r.name), (.int .i64 r.prio), (.bool r.inst), (Ah 12 Ak r.pkgs)]))), (7, (.int .i64 ((i : Int)))), (47, (.bool true)), (51, (.own 1)), (52, (.int .i64 ((i : Int)))), (53, (.op 1 (i * 4))), (54, (.op 1 (i * 4 + 2))), (55, (.bool ((nth st.repos i).inst)))]) (by kernel_rfl) (by kernel_rfl) rfl (by kernel_rfl) (Eo (l := st.repos) A5 (by omega)) (by kernel_rfl) (by kernel_rfl) ?_
     refine A2 11 [] [0, 3, 7, 56] [] hk0 v0 c0 ?_
     refine A9 (q := (nth st.repos i).inst) (by kernel_rfl) (fun c6 => ?_) (fun c6 => ?_)
     ·try simp only [Al] at c6
      refine Aa [] [4] ?_
      refine Ag ?_
      refine Dd (.inl rfl) (al := [(.int .i64 67)]) (by kernel_rfl) ?_ ((by kernel_rfl : Cq 3 _ = some [(0, (.row [(.int .i64 st.kind), (.own 1), (.own 2)] 107)), (1, (.grow (st.repos.map A5) 41 4)), (2, (.grow (pl.map atX) 128 2))]).trans ?_)
      all_goals have hN := J4 (l := st.repos) (p := fun o => decide (o.name = r.name)) (fun j hj => by simpa using f1_2 j (by omega))
      all_goals have hA : ¬ (Bf r.name = false ∨ st.repos.any (fun o => decide (o.name = r.name)) = true) := fun h => h.elim (fun h => by rw [c1] at h; cases h) (fun h => by rw [hN] at h; cases h)
      all_goals have hE : B2 st r = 67 := by unfold B2; rw [if_neg hA, if_pos ⟨by assumption, Q0n (i := i) (by omega) (by assumption)⟩]
      ·rw [hE]; rfl
      ·rw [H7 hE (by decide), My hE (by decide)]
     ·try simp only [Al] at c6
      refine Ai ?_
      refine Ar ?_
      refine A2 0 [] [0, 3, 7] [] hk0 v0 (cc 1 (p := (-9223372036854775808 ≤ (i : Int) + 1 ∧ (i : Int) + 1 ≤ 9223372036854775807)) (by omega) <| c0) ?_
      refine ⟨by kernel_rfl, _, ?_, i + 1, ?_, ?_, (by kernel_rfl), rfl⟩
      ·omega
      ·omega
      ·intro j hj
       by_cases h : j = i
       ·subst h; simp_all
       ·exact f2_2 j (by omega)
    ·refine Ff 47 (a := .bool r.inst) (.bool false) (by kernel_rfl) (Imp.of_eq (by rw [c5])) ?_
     refine A2 3 [] [0, 3, 7, 56] [] hk0 v0 c0 ?_
     refine Db (by kernel_rfl) ?_
     refine Ai ?_
     refine Ar ?_
     refine A2 0 [] [0, 3, 7] [] hk0 v0 (cc 1 (p := (-9223372036854775808 ≤ (i : Int) + 1 ∧ (i : Int) + 1 ≤ 9223372036854775807)) (by omega) <| c0) ?_
     refine ⟨by kernel_rfl, _, ?_, i + 1, ?_, ?_, (by kernel_rfl), rfl⟩
     ·omega
     ·omega
     ·intro j hj
      by_cases h : j = i
      ·subst h; simp_all
      ·exact f2_2 j (by omega)
   ·refine Bl ?_
    refine Ab ?_
    refine C7 (fun y => y = ⟨[(0, (.ptr 0 0)), (3, (.fp (.agg [(.str r.name), (.int .i64 r.prio), (.bool r.inst), (Ah 12 Ak r.pkgs)]))), (74, (.bool (decide ((8 : Int) ≤ ((st.repos.map A5).length : Int)) || decide ((200 : Int) < ((pl.map atX).length : Int) + (r.pkgs.length : Int)))))], [(0, (.row [(.int .i64 st.kind), (.own 1), (.own 2)] 107)), (1, (.grow (st.repos.map A5) 41 4)), (2, (.grow (pl.map atX) 128 2))], 4⟩) [0, 3, 74] 4 (by omega) ?_ ?_
    ·refine G1 (CS := [(8, ((!(decide (8 ≤ ((st.repos.map A5).length : Int)))) = true → (!(decide (8 ≤ ((st.repos.map A5).length : Int)))) = true)), (9, ((!(decide (8 ≤ ((st.repos.map A5).length : Int)))) = true → (!(decide (8 ≤ ((st.repos.map A5).length : Int)))) = true)), (10, ((!(decide (8 ≤ ((st.repos.map A5).length : Int)))) = true → (!(decide (8 ≤ ((st.repos.map A5).length : Int)))) = true)), (11, ((!(decide (8 ≤ ((st.repos.map A5).length : Int)))) = true → (!(decide (8 ≤ ((st.repos.map A5).length : Int)))) = true)), (13, ((!(decide (8 ≤ ((st.repos.map A5).length : Int)))) = true → (!(decide (8 ≤ ((st.repos.map A5).length : Int)))) = true)), (14, ((!(decide (8 ≤ ((st.repos.map A5).length : Int)))) = true → (!(decide (8 ≤ ((st.repos.map A5).length : Int)))) = true)), (15, ((!(decide (8 ≤ ((st.repos.map A5).length : Int)))) = true → ((!(decide (8 ≤ ((st.repos.map A5).length : Int)))) = true ∧ (!(decide (8 ≤ ((st.repos.map A5).length : Int)))) = true) ∧ (-9223372036854775808 ≤ ((pl.map atX).length : Int) + (r.pkgs.length : Int) ∧ ((pl.map atX).length : Int) + (r.pkgs.length : Int) ≤ 9223372036854775807))), (16, ((!(decide (8 ≤ ((st.repos.map A5).length : Int)))) = true → (!(decide (8 ≤ ((st.repos.map A5).length : Int)))) = true)), (17, ((decide (8 ≤ ((st.repos.map A5).length : Int))) = false → (!(decide (8 ≤ ((st.repos.map A5).length : Int)))) = true))]) [64, 65, 66, 67, 68, 69, 70, 71, 72, 73] [0, 3, 74] [] hk0 v0 (by refine cc _ ?_ <| cc _ ?_ <| cc _ ?_ <| cc _ ?_ <| cc _ ?_ <| cc _ ?_ <| cc _ ?_ <| cc _ ?_ <| cc _ ?_ c0 <;> first | omega | (simp; omega) | (simp; done) | (intros; simp_all; omega) | (intros; simp_all; done)) ?_
     refine ⟨by kernel_rfl, (by kernel_rfl)⟩
    ·rintro y1 rfl
     refine A9 (q := decide ((8 : Int) ≤ ((st.repos.map A5).length : Int)) || decide ((200 : Int) < ((pl.map atX).length : Int) + (r.pkgs.length : Int))) (by kernel_rfl) (fun c7 => ?_) (fun c7 => ?_)
     ·try simp only [Al] at c7
      refine Aa [] [4] ?_
      refine Ag ?_
      refine Dd (.inl rfl) (al := [(.int .i64 68)]) (by kernel_rfl) ?_ ((by kernel_rfl : Cq 3 _ = some [(0, (.row [(.int .i64 st.kind), (.own 1), (.own 2)] 107)), (1, (.grow (st.repos.map A5) 41 4)), (2, (.grow (pl.map atX) 128 2))]).trans ?_)
      all_goals have hN := J4 (l := st.repos) (p := fun o => decide (o.name = r.name)) (fun j hj => by simpa using f1_2 j (by omega))
      all_goals have hA : ¬ (Bf r.name = false ∨ st.repos.any (fun o => decide (o.name = r.name)) = true) := fun h => h.elim (fun h => by rw [c1] at h; cases h) (fun h => by rw [hN] at h; cases h)
      all_goals have hI : ¬ (r.inst = true ∧ st.repos.any (fun o => o.inst) = true) := fun ⟨h1, h2⟩ => by rw [J4 (fun j hj => by have := f2_2 j (by omega); simpa [h1] using this)] at h2; cases h2
      all_goals have hE : B2 st r = 68 := by unfold B2; rw [if_neg hA, if_neg hI, if_pos (by omega)]
      ·rw [hE]; rfl
      ·rw [H7 hE (by decide), My hE (by decide)]
     ·try simp only [Al] at c7
      refine Ai ?_
      refine Ab ?_
      refine Aa [] [0, 3, 8] ?_
      refine A3 ?_
      refine Bs (fun g y => ∃ (i : Nat), i ≤ r.pkgs.length ∧ (∀ j, j < i → Dn (nth r.pkgs j) = 0) ∧ y = ⟨[(0, (.ptr 0 0)), (3, (.fp (.agg [(.str r.name), (.int .i64 r.prio), (.bool r.inst), (Ah 12 Ak r.pkgs)]))), (8, (.int .i64 ((i : Int))))], [(0, (.row [(.int .i64 st.kind), (.own 1), (.own 2)] 107)), (1, (.grow (st.repos.map A5) 41 4)), (2, (.grow (pl.map atX) 128 2))], 4⟩ ∧ g = r.pkgs.length - i) [0, 3, 8] 4 _ (by omega) ⟨0, (by omega), (by exact fun j hj => by omega), (by kernel_rfl), rfl⟩ ?_
      rintro g3 y3 ⟨i, f3_1, f3_2, rfl, rfl⟩
      refine Ab ?_
      refine Aa [] [0, 3, 8, 79] ?_
      refine A8 (p := (i : Int) < (r.pkgs.length : Int)) (by kernel_rfl) (fun c8 => ?_) (fun c8 => ?_)
      ·refine Ai ?_
       refine Ab ?_
       refine A3 ?_
       refine Ae [] [0, 3, 8, 9] [] (hk 5 Q7u (Q3y (nth r.pkgs i) (hp i (by omega))) <| hk0) v0 (cc 3 (p := (0 ≤ (i : Int) ∧ i < r.pkgs.length)) (by omega) <| c0) ?_
       refine Aa [] [0, 3, 8, 9, 89] ?_
       refine Cj (p := (Dn (nth r.pkgs i)) = 0) (by kernel_rfl) (fun c9 => ?_) (fun c9 => ?_)
       ·refine Aa [] [4] ?_
        refine Ag ?_
        refine Dd (.inl rfl) (al := [(.int .i64 (Dn (nth r.pkgs i)))]) (by kernel_rfl) ?_ ((by kernel_rfl : Cq 3 _ = some [(0, (.row [(.int .i64 st.kind), (.own 1), (.own 2)] 107)), (1, (.grow (st.repos.map A5) 41 4)), (2, (.grow (pl.map atX) 128 2))]).trans ?_)
        all_goals have hN := J4 (l := st.repos) (p := fun o => decide (o.name = r.name)) (fun j hj => by simpa using f1_2 j (by omega))
        all_goals have hA : ¬ (Bf r.name = false ∨ st.repos.any (fun o => decide (o.name = r.name)) = true) := fun h => h.elim (fun h => by rw [c1] at h; cases h) (fun h => by rw [hN] at h; cases h)
        all_goals have hI : ¬ (r.inst = true ∧ st.repos.any (fun o => o.inst) = true) := fun ⟨h1, h2⟩ => by rw [J4 (fun j hj => by have := f2_2 j (by omega); simpa [h1] using this)] at h2; cases h2
        all_goals have hE : B2 st r = Dn (nth r.pkgs i) := by unfold B2; rw [if_neg hA, if_neg hI, if_neg (by omega)]; exact Rn (by omega) f3_2 (by assumption)
        ·rw [hE]; rfl
        ·rw [H7 hE (by assumption), My hE (by assumption)]
       ·refine Ai ?_
        refine Ar ?_
        refine A2 0 [] [0, 3, 8] [] hk0 v0 (cc 1 (p := (-9223372036854775808 ≤ (i : Int) + 1 ∧ (i : Int) + 1 ≤ 9223372036854775807)) (by omega) <| c0) ?_
        refine ⟨by kernel_rfl, _, ?_, i + 1, ?_, ?_, (by kernel_rfl), rfl⟩
        ·omega
        ·omega
        ·intro j hj
         by_cases h : j = i
         ·subst h; simp_all
         ·exact f3_2 j (by omega)
      ·refine Bl ?_
       refine Ab ?_
       refine Aa [] [0, 3, 10] ?_
       refine A3 ?_
       refine Bs (fun g y => ∃ (i : Nat), i ≤ r.pkgs.length ∧ y = ⟨[(0, (.ptr 0 0)), (3, (.fp (.agg [(.str r.name), (.int .i64 r.prio), (.bool r.inst), (Ah 12 Ak r.pkgs)]))), (10, (.int .i64 ((i : Int))))], [(0, (.row [(.int .i64 st.kind), (.own 1), (.own 2)] 107)), (1, (.grow (st.repos.map A5) 41 4)), (2, (.grow ((Cr pl st r i).map atX) 128 2))], 4⟩ ∧ g = r.pkgs.length - i) [0, 3, 10] 4 _ (by omega) ⟨0, (by omega), (Eq.trans (b := (⟨[(0, (.ptr 0 0)), (3, (.fp (.agg [(.str r.name), (.int .i64 r.prio), (.bool r.inst), (Ah 12 Ak r.pkgs)]))), (10, (.int .i64 0))], [(0, (.row [(.int .i64 st.kind), (.own 1), (.own 2)] 107)), (1, (.grow (st.repos.map A5) 41 4)), (2, (.grow (pl.map atX) 128 2))], 4⟩ : St)) (by kernel_rfl) (by rw [show Cr pl st r 0 = pl from by simp [Cr]] <;> rfl)), rfl⟩ ?_
       rintro g4 y4 ⟨i, f4_1, rfl, rfl⟩
       have hkl : ((Cr pl st r i).map atX).length ≤ 200 := by rw [List.length_map, X0y]; omega
       refine Ab ?_
       refine Aa [] [0, 3, 10, 95] ?_
       refine A8 (p := (i : Int) < (r.pkgs.length : Int)) (by kernel_rfl) (fun c10 => ?_) (fun c10 => ?_)
       ·refine Ai ?_
        refine C7 (fun y => y = ⟨[(0, (.ptr 0 0)), (3, (.fp (.agg [(.str r.name), (.int .i64 r.prio), (.bool r.inst), (Ah 12 Ak r.pkgs)]))), (10, (.int .i64 ((i : Int))))], [(0, (.row [(.int .i64 st.kind), (.own 1), (.own 2)] 107)), (1, (.grow (st.repos.map A5) 41 4)), (2, (.grow ((Cr pl st r (i + 1)).map atX) 128 2))], 4⟩) [0, 3, 10] 4 (by omega) ?_ ?_
        ·refine A3 ?_
         refine G1 [] [0, 3, 10] [] hk0 v0 (cc 13 (p := ((((Cr pl st r i).map atX).length + 1) * 16 ≤ 140737488355328)) (by omega) <| c0) ?_
         refine ⟨by kernel_rfl, (Eq.trans (b := (⟨[(0, (.ptr 0 0)), (3, (.fp (.agg [(.str r.name), (.int .i64 r.prio), (.bool r.inst), (Ah 12 Ak r.pkgs)]))), (10, (.int .i64 ((i : Int))))], [(0, (.row [(.int .i64 st.kind), (.own 1), (.own 2)] 107)), (1, (.grow (st.repos.map A5) 41 4)), (2, (.grow (((Cr pl st r i).map atX) ++ ([(.agg [(.int .i64 (((st.repos.map A5).length : Int))), (.int .i64 ((i : Int)))])] : List AV)) 128 2))], 4⟩ : St)) (by kernel_rfl) (by rw [show (((Cr pl st r i).map atX) ++ ([(.agg [(.int .i64 (((st.repos.map A5).length : Int))), (.int .i64 ((i : Int)))])] : List AV)) = (Cr pl st r (i + 1)).map atX from by rw [X0x, List.map_append, List.length_map]; rfl] <;> kernel_rfl))⟩
        ·rintro y2 rfl
         refine Ar ?_
         refine A2 0 [] [0, 3, 10] [] hk0 v0 (cc 1 (p := (-9223372036854775808 ≤ (i : Int) + 1 ∧ (i : Int) + 1 ≤ 9223372036854775807)) (by omega) <| c0) ?_
         refine ⟨by kernel_rfl, _, ?_, i + 1, ?_, (by kernel_rfl), rfl⟩
         ·omega
         ·omega
       ·refine Bl ?_
        refine C7 (fun y => y = ⟨[], [(0, (.row [(.int .i64 st.kind), (.own 1), (.own 2)] 107)), (1, (.grow ((st.repos ++ [r]).map A5) 41 4)), (2, (.grow ((Cr pl st r i).map atX) 128 2))], 4⟩) [] 4 (by omega) ?_ ?_
        ·refine G1 [] [] [] hk0 v0 (cc 7 (p := (((st.repos.map A5).length + 1) * 56 ≤ 140737488355328)) (by omega) <| c0) ?_
         refine ⟨by kernel_rfl, (Eq.trans (b := (⟨[], [(0, (.row [(.int .i64 st.kind), (.own 1), (.own 2)] 107)), (1, (.grow ((st.repos.map A5) ++ ([(.agg [(.str r.name), (.int .i64 r.prio), (.bool r.inst), (Ah 12 Ak r.pkgs)])] : List AV)) 41 4)), (2, (.grow ((Cr pl st r i).map atX) 128 2))], 4⟩ : St)) (by kernel_rfl) (by rw [show ((st.repos.map A5) ++ ([(.agg [(.str r.name), (.int .i64 r.prio), (.bool r.inst), (Ah 12 Ak r.pkgs)])] : List AV)) = (st.repos ++ [r]).map A5 from by rw [List.map_append]; rfl] <;> kernel_rfl))⟩
        ·rintro y3 rfl
         refine Aa [] [4] ?_
         refine Ag ?_
         refine Dd (.inl rfl) (al := [(.int .i64 0)]) (by kernel_rfl) ?_ ((by kernel_rfl : Cq 3 _ = some [(0, (.row [(.int .i64 st.kind), (.own 1), (.own 2)] 107)), (1, (.grow ((st.repos ++ [r]).map A5) 41 4)), (2, (.grow ((Cr pl st r i).map atX) 128 2))]).trans ?_)
         all_goals have hN := J4 (l := st.repos) (p := fun o => decide (o.name = r.name)) (fun j hj => by simpa using f1_2 j (by omega))
         all_goals have hA : ¬ (Bf r.name = false ∨ st.repos.any (fun o => decide (o.name = r.name)) = true) := fun h => h.elim (fun h => by rw [c1] at h; cases h) (fun h => by rw [hN] at h; cases h)
         all_goals have hI : ¬ (r.inst = true ∧ st.repos.any (fun o => o.inst) = true) := fun ⟨h1, h2⟩ => by rw [J4 (fun j hj => by have := f2_2 j (by omega); simpa [h1] using this)] at h2; cases h2
         all_goals have hE : B2 st r = 0 := by unfold B2; rw [if_neg hA, if_neg hI, if_neg (by omega)]; exact Yc fun j hj => f3_2 j (by omega)
         ·rw [hE]; rfl
         ·unfold Bk D1; rw [if_pos hE, if_pos hE, show i = r.pkgs.length from by omega]
end Sv
end Go.Proofs.YtlfjokcbkopfeaaGreatDoor
end
section
namespace Go.Proofs.YtlfjokcbkopfeaaGreatDoor
open Go Go.RowKit
namespace Sv
attribute [local irreducible] SW SO Bg
set_option maxHeartbeats 1000000
set_option maxRecDepth 100000
theorem Yn : As Tryz.prog 9 := Ax Tryz.func9 (by kernel_rfl) rfl
theorem Yz : As Tryz.prog 39 := Ax Tryz.func39 (by kernel_rfl) rfl
theorem Yy : As Tryz.prog 40 := Ax Tryz.func40 (by kernel_rfl) rfl
def Ac (k : Int) : Int := if k = 2 then 2 else 1
theorem Og (k : Int) : Ac k = 1 ∨ Ac k = 2 := by unfold Ac; split <;> simp
theorem Xc {k : Int} (h : k = 2) : Ac k = k := by unfold Ac; rw [if_pos h, h]
def Ha : List PkgT → Nat
 | [] => 0
 | p :: r => 1 + p.size + Ha r
theorem Vi : ∀ l : List PkgT, l.length ≤ Ha l
 | [] => Nat.zero_le _
 | p :: r => by have := Vi r; simp only [Ha, List.length_cons]; omega
theorem Vj : ∀ {l : List PkgT} {i : Nat}, i < l.length → (nth l i).size ≤ Ha l
 | [], _, h => by simp at h
 | p :: r, 0, _ => by simp only [Ha]; show p.size ≤ _; omega
 | p :: r, i + 1, h => by
  have := Vj (l := r) (i := i) (by simpa using h)
  simp only [Ha]; show (nth r i).size ≤ _; omega
def _root_.Go.Proofs.YtlfjokcbkopfeaaGreatDoor.RepoT.size (r : RepoT) : Nat := 1 + r.name.length + Ha r.pkgs
theorem _root_.Go.Proofs.YtlfjokcbkopfeaaGreatDoor.RepoT.sizes (r : RepoT) : r.name.length ≤ r.size ∧ r.pkgs.length ≤ r.size := by
 have := Vi r.pkgs
 unfold RepoT.size; omega
theorem _root_.Go.Proofs.YtlfjokcbkopfeaaGreatDoor.RepoT.size_pkg {r : RepoT} {i : Nat} (h : i < r.pkgs.length) : (nth r.pkgs i).size ≤ r.size := by
 have := Vj h
 unfold RepoT.size; omega
def Ad (k : Int) (l : List RepoT) : PoolT × List (Int × Int) := l.foldl (fun s r => (Bk s.1 r, D1 s.2 s.1 r)) (⟨k, [], []⟩, [])
def J1 (s : PoolT × List (Int × Int)) : Prop := s.1.repos.length ≤ 8 ∧ s.1.all.length ≤ 200 ∧ s.2.length = s.1.all.length
theorem X0o {s : PoolT × List (Int × Int)} {r : RepoT} (h : J1 s) : J1 (Bk s.1 r, D1 s.2 s.1 r) := by
 obtain ⟨h1, h2, h3⟩ := h
 by_cases he : B2 s.1 r = 0
 ·have hm : ¬ (8 ≤ s.1.repos.length ∨ 200 < s.1.all.length + r.pkgs.length) := by
   intro q
   unfold B2 at he
   rw [if_pos q] at he
   split at he <;> first | omega | (split at he <;> omega)
  unfold J1 Bk D1
  simp only [if_pos he, List.length_append, List.length_singleton, Ay, Cr, List.length_map, List.length_take, List.length_range]
  omega
 ·unfold J1 Bk D1
  rw [if_neg he, if_neg he]; exact ⟨h1, h2, h3⟩
theorem Pa (k : Int) (l : List RepoT) : J1 (Ad k l) := by
 have key : ∀ (l : List RepoT) (s : PoolT × List (Int × Int)), J1 s → J1 (l.foldl (fun s r => (Bk s.1 r, D1 s.2 s.1 r)) s) := by
  intro l
  induction l with
  | nil => exact fun s h => h
  | cons r l ih => exact fun s h => ih _ (X0o h)
 exact key l _ ⟨by simp, by simp, by simp⟩
theorem Z6 {k : Int} {l : List RepoT} {i : Nat} (h : i < l.length) : Ad k (l.take (i + 1)) = (Bk (Ad k (l.take i)).1 (nth l i), D1 (Ad k (l.take i)).2 (Ad k (l.take i)).1 (nth l i)) := by
 unfold Ad
 rw [List.take_add_one, List.getElem?_eq_getElem h, List.foldl_append]
 simp [nth, h]
noncomputable def D7 (st : PoolT) : AV := .agg [.int .i64 st.kind, Ah 4 Av st.repos, Ah 13 Am st.all, .smap (.slice none 0 0) (fun s => .row 1 (Au st.all s).length (fun i => (Au st.all s).getD i Bh))]
noncomputable def C0 (st : PoolT) (pl : List (Int × Int)) : AV := .agg [.int .i64 st.kind, Ah 4 A5 st.repos, Ah 2 atX pl]
theorem X2y (kind : Int) (l : List RepoT) (hll : l.length ≤ 4611686018427387904) (hl : ∀ i, i < l.length → (nth l i).size ≤ 4194304) :
  FnV Tryz.prog 9 [(.int .i64 kind), (Ah 4 A5 l)] (.tup [.fp (D7 (Ad (Ac kind) l).1), .fp (C0 (Ad (Ac kind) l).1 (Ad (Ac kind) l).2)]) := by
 refine Ba [.tmp 4, .tmp 5] Tryz.func9 rfl Tryz.ntmps9 rfl rfl (fun B F hF => ?_)
 refine Aa [] [0, 1] ?_
 refine C7 (fun y => y = ⟨[(0, (.int .i64 ((Ac kind)))), (1, (Ah 4 A5 l))], [], 0⟩) [0, 1] 0 (by omega) ?_ ?_
 ·refine Aa [] [0, 1, 12] ?_
  refine Cj (p := kind = 2) (by kernel_rfl) (fun c1 => ?_) (fun c1 => ?_)
  ·refine Ar ?_
   refine D4 [] [0, 1] ?_
   refine ⟨by kernel_rfl, (Eq.trans (b := (⟨[(0, (.int .i64 1)), (1, (Ah 4 A5 l))], [], 0⟩ : St)) (by kernel_rfl) (by rw [show Ac kind = 1 from if_neg (by assumption)] <;> rfl))⟩
  ·refine Ai ?_
   refine ⟨by kernel_rfl, (Eq.trans (b := (⟨[(0, (.int .i64 kind)), (1, (Ah 4 A5 l))], [], 0⟩ : St)) (by kernel_rfl) (by rw [show Ac kind = kind from Xc (by omega)] <;> rfl))⟩
 ·rintro y1 rfl
  refine Ab ?_
  refine Ar ?_
  refine Bj 1 0 [] [0, 1, 14] [] hk0 v0 c0 ?_
  refine J8 [.tmp 2, .tmp 3] (al := [(.int .i64 ((Ac kind)))]) (s0 := [(0, (.int .i64 ((Ac kind)))), (1, (Ah 4 A5 l)), (14, (.int .i64 ((Ac kind))))]) (by kernel_rfl) (by exact Yz) (by kernel_rfl) Tryz.func39 rfl Tryz.ntmps39 rfl (by kernel_rfl) (by kernel_rfl) (fun F1 hF1 hle1 => ?_)
  refine Aa [] [0] ?_
  refine Ab ?_
  obtain ⟨b1_1, hb1_1⟩ : ∃ b, b = (!decide ((Ac kind) = 1)) := ⟨_, rfl⟩
  refine Ae (CS := [(4, (b1_1 = true → b1_1 = true)), (5, (b1_1 = true → b1_1 = true))]) [7, 8] [0, 9] [] hk0 (vk 3 6 (a := .bool (!decide ((Ac kind) = 1))) (b := .bool b1_1) (Imp.of_eq (by rw [hb1_1])) <| v0) (by refine cc _ ?_ <| cc _ ?_ c0 <;> simp) ?_
  refine A9 (q := b1_1 && (!decide ((Ac kind) = 2))) (by kernel_rfl) (fun c2 => ?_) (fun c2 => ?_)
  ·subst hb1_1
   try simp only [Al] at c2
   exact absurd (Og kind) fun h => h.elim c2.1 c2.2
  ·subst hb1_1
   try simp only [Al] at c2
   refine Ai ?_
   refine Aa [] [2, 3] ?_
   refine Ag ?_
   refine Io (.inl rfl) (al := [(.ptr 1 0), (.int .i64 0)]) (s' := [(0, (.int .i64 ((Ac kind)))), (1, (Ah 4 A5 l)), (14, (.int .i64 ((Ac kind)))), (15, (.tup [(.ptr 1 0), (.int .i64 0)]))]) (by kernel_rfl) (by kernel_rfl) ?_
   refine A2 2 [] [0, 1, 6, 7] [] hk0 v0 c0 ?_
   refine Ab ?_
   refine Ar ?_
   refine Bj 1 0 [] [1, 6, 7, 19] [] hk0 v0 c0 ?_
   refine J8 [.tmp 2, .tmp 3] (al := [(.int .i64 ((Ac kind)))]) (s0 := [(1, (Ah 4 A5 l)), (6, (.ptr 1 0)), (7, (.int .i64 0)), (19, (.int .i64 ((Ac kind))))]) (by kernel_rfl) (by exact Yy) (by kernel_rfl) Tryz.func40 rfl Tryz.ntmps40 rfl (by kernel_rfl) (by kernel_rfl) (fun F2 hF2 hle2 => ?_)
   refine Aa [] [0] ?_
   refine Ab ?_
   obtain ⟨b2_1, hb2_1⟩ : ∃ b, b = (!decide ((Ac kind) = 1)) := ⟨_, rfl⟩
   refine Ae (CS := [(4, (b2_1 = true → b2_1 = true)), (5, (b2_1 = true → b2_1 = true))]) [7, 8] [0, 9] [] hk0 (vk 3 6 (a := .bool (!decide ((Ac kind) = 1))) (b := .bool b2_1) (Imp.of_eq (by rw [hb2_1])) <| v0) (by refine cc _ ?_ <| cc _ ?_ c0 <;> simp) ?_
   refine A9 (q := b2_1 && (!decide ((Ac kind) = 2))) (by kernel_rfl) (fun c3 => ?_) (fun c3 => ?_)
   ·subst hb2_1
    try simp only [Al] at c3
    exact absurd (Og kind) fun h => h.elim c3.1 c3.2
   ·subst hb2_1
    try simp only [Al] at c3
    refine Ai ?_
    refine Aa [] [2, 3] ?_
    refine Ag ?_
    refine Io (.inl rfl) (al := [(.ptr 2 0), (.int .i64 0)]) (s' := [(1, (Ah 4 A5 l)), (6, (.ptr 1 0)), (7, (.int .i64 0)), (19, (.int .i64 ((Ac kind)))), (20, (.tup [(.ptr 2 0), (.int .i64 0)]))]) (by kernel_rfl) (by kernel_rfl) ?_
    refine A2 2 [] [1, 6, 7, 8] [] hk0 v0 c0 ?_
    refine Ab ?_
    refine Aa [] [1, 6, 8, 28] ?_
    refine Db (by kernel_rfl) ?_
    refine Ai ?_
    refine Ab ?_
    refine Aa [] [1, 6, 8, 10] ?_
    refine A3 ?_
    refine Ib 41 4 1 1 (y := ⟨[(1, (Ah 4 A5 l)), (6, (.ptr 1 0)), (8, (.ptr 2 0)), (10, (.int .i64 0))], [(0, (.map [] 0)), (1, (.row [(.int .i64 ((Ac kind))), (.own 3), .nils, (.map 0)] 92)), (2, (.row [(.int .i64 ((Ac kind))), .nils, .nils] 107)), (3, (.grow [] 41 4))], 4⟩) (by kernel_rfl) (by kernel_rfl) ?_
    refine Ib 97 13 1 2 (y := ⟨[(1, (Ah 4 A5 l)), (6, (.ptr 1 0)), (8, (.ptr 2 0)), (10, (.int .i64 0))], [(0, (.map [] 0)), (1, (.row [(.int .i64 ((Ac kind))), (.own 3), (.own 4), (.map 0)] 92)), (2, (.row [(.int .i64 ((Ac kind))), .nils, .nils] 107)), (3, (.grow [] 41 4)), (4, (.grow [] 97 13))], 5⟩) (by kernel_rfl) (by kernel_rfl) ?_
    refine Ib 41 4 2 1 (y := ⟨[(1, (Ah 4 A5 l)), (6, (.ptr 1 0)), (8, (.ptr 2 0)), (10, (.int .i64 0))], [(0, (.map [] 0)), (1, (.row [(.int .i64 ((Ac kind))), (.own 3), (.own 4), (.map 0)] 92)), (2, (.row [(.int .i64 ((Ac kind))), (.own 5), .nils] 107)), (3, (.grow [] 41 4)), (4, (.grow [] 97 13)), (5, (.grow [] 41 4))], 6⟩) (by kernel_rfl) (by kernel_rfl) ?_
    refine Ib 128 2 2 2 (y := ⟨[(1, (Ah 4 A5 l)), (6, (.ptr 1 0)), (8, (.ptr 2 0)), (10, (.int .i64 0))], [(0, (.map [] 0)), (1, (.row [(.int .i64 ((Ac kind))), (.own 3), (.own 4), (.map 0)] 92)), (2, (.row [(.int .i64 ((Ac kind))), (.own 5), (.own 6)] 107)), (3, (.grow [] 41 4)), (4, (.grow [] 97 13)), (5, (.grow [] 41 4)), (6, (.grow [] 128 2))], 7⟩) (by kernel_rfl) (by kernel_rfl) ?_
    refine Pm 0 3 1 (y := ⟨[(1, (Ah 4 A5 l)), (6, (.ptr 1 0)), (8, (.ptr 2 0)), (10, (.int .i64 0))], [(0, (.mm (fun _ => []) none 3 1)), (1, (.row [(.int .i64 ((Ac kind))), (.own 3), (.own 4), (.map 0)] 92)), (2, (.row [(.int .i64 ((Ac kind))), (.own 5), (.own 6)] 107)), (3, (.grow [] 41 4)), (4, (.grow [] 97 13)), (5, (.grow [] 41 4)), (6, (.grow [] 128 2))], 7⟩) (by kernel_rfl) ?_
    refine Bs (fun g y => ∃ (i : Nat), i ≤ l.length ∧ y = ⟨[(1, (Ah 4 A5 l)), (6, (.ptr 1 0)), (8, (.ptr 2 0)), (10, (.int .i64 ((i : Int))))], [(0, (.mm (Au ((Ad (Ac kind) (l.take i)).1).all) none 3 1)), (1, (.row [(.int .i64 ((Ad (Ac kind) (l.take i)).1.kind)), (.own 3), (.own 4), (.map 0)] 92)), (2, (.row [(.int .i64 ((Ad (Ac kind) (l.take i)).1.kind)), (.own 5), (.own 6)] 107)), (3, (.grow (((Ad (Ac kind) (l.take i)).1).repos.map Av) 41 4)), (4, (.grow (((Ad (Ac kind) (l.take i)).1).all.map Am) 97 13)), (5, (.grow (((Ad (Ac kind) (l.take i)).1).repos.map A5) 41 4)), (6, (.grow (((Ad (Ac kind) (l.take i)).2).map atX) 128 2))], 7⟩ ∧ g = l.length - i) [1, 6, 8, 10] 7 _ (by omega) ⟨0, (by omega), (by kernel_rfl), rfl⟩ ?_
    rintro g1 y1 ⟨i, f1_1, rfl, rfl⟩
    have hb := Pa (Ac kind) (l.take i)
    refine Ab ?_
    refine Aa [] [1, 6, 8, 10, 32] ?_
    refine A8 (p := (i : Int) < (l.length : Int)) (by kernel_rfl) (fun c4 => ?_) (fun c4 => ?_)
    ·have hz := RepoT.sizes (nth l i)
     have hw := hl i (by omega)
     refine Ai ?_
     refine Ab ?_
     refine A3 ?_
     refine Ab ?_
     refine Hr (by kernel_rfl) (fun F1 hF1 => ?_)
     refine Cp (fuel := 3) [] [0, 1, 2, 3, 4, 6, 7, 8, 9, 10] [1, 6, 8, 10, 35, 39, 41, 45] (hold (p := (0 ≤ (i : Int) ∧ i < l.length) ∧ (0 ≤ (i : Int) ∧ i < l.length)) (by omega)) ?_
     refine Dt (fuel := 2) 5 (by kernel_rfl) ?_
     refine Bm (fuel := 2) 5 rfl ?_
     refine C3 [1, 3, 4, 0] (al := [(.ptr 1 0), (.agg [(.str ((nth l i).name)), (.int .i64 ((nth l i).prio)), (.bool ((nth l i).inst)), (Ah 12 Ak ((nth l i).pkgs))])]) (al' := [(.ptr 0 0), (.agg [(.str ((nth l i).name)), (.int .i64 ((nth l i).prio)), (.bool ((nth l i).inst)), (Ah 12 Ak ((nth l i).pkgs))])]) (r := (.int .i64 (B2 (Ad (Ac kind) (l.take i)).1 (nth l i)))) (r' := (.int .i64 (B2 (Ad (Ac kind) (l.take i)).1 (nth l i)))) (s' := [(1, (Ah 4 A5 l)), (6, (.ptr 1 0)), (8, (.ptr 2 0)), (10, (.int .i64 ((i : Int)))), (35, (.ptr 1 0)), (39, (.agg [(.str ((nth l i).name)), (.int .i64 ((nth l i).prio)), (.bool ((nth l i).inst)), (Ah 12 Ak ((nth l i).pkgs))])), (41, (.ptr 2 0)), (45, (.agg [(.str ((nth l i).name)), (.int .i64 ((nth l i).prio)), (.bool ((nth l i).inst)), (Ah 12 Ak ((nth l i).pkgs))])), (40, (.int .i64 (B2 (Ad (Ac kind) (l.take i)).1 (nth l i))))]) (H := [(0, (.row [(.int .i64 ((Ad (Ac kind) (l.take i)).1.kind)), (.own 1), (.own 2), (.map 3)] 92)), (1, (.grow (((Ad (Ac kind) (l.take i)).1).repos.map Av) 41 4)), (2, (.grow (((Ad (Ac kind) (l.take i)).1).all.map Am) 97 13)), (3, (.mm (Au ((Ad (Ac kind) (l.take i)).1).all) none 3 1))]) (H' := [(0, (.row [(.int .i64 ((Bk (Ad (Ac kind) (l.take i)).1 (nth l i)).kind)), (.own 1), (.own 2), (.map 3)] 92)), (1, (.grow ((Bk (Ad (Ac kind) (l.take i)).1 (nth l i)).repos.map Av) 41 4)), (2, (.grow ((Bk (Ad (Ac kind) (l.take i)).1 (nth l i)).all.map Am) 97 13)), (3, (.mm (Au (Bk (Ad (Ac kind) (l.take i)).1 (nth l i)).all) none 3 1))]) (h2 := [(0, (.mm (Au (Bk (Ad (Ac kind) (l.take i)).1 (nth l i)).all) none 3 1)), (1, (.row [(.int .i64 ((Bk (Ad (Ac kind) (l.take i)).1 (nth l i)).kind)), (.own 3), (.own 4), (.map 0)] 92)), (2, (.row [(.int .i64 ((Ad (Ac kind) (l.take i)).1.kind)), (.own 5), (.own 6)] 107)), (3, (.grow ((Bk (Ad (Ac kind) (l.take i)).1 (nth l i)).repos.map Av) 41 4)), (4, (.grow ((Bk (Ad (Ac kind) (l.take i)).1 (nth l i)).all.map Am) 97 13)), (5, (.grow (((Ad (Ac kind) (l.take i)).1).repos.map A5) 41 4)), (6, (.grow (((Ad (Ac kind) (l.take i)).2).map atX) 128 2))]) (by kernel_rfl) (by exact R7) (by kernel_rfl) (by kernel_rfl) (by kernel_rfl) (by kernel_rfl) (by kernel_rfl) (Ta (Ad (Ac kind) (l.take i)).1 (nth l i) hb.1 hb.2.1 (by omega) (by omega) (fun j hj => Nat.le_trans (RepoT.size_pkg hj) (hl i (by omega)))) (by kernel_rfl) (by kernel_rfl) (by kernel_rfl) ?_
     refine Be ⟨rfl, ?_⟩
     refine Dt (fuel := 1) 11 (by kernel_rfl) ?_
     refine Bm (fuel := 1) 11 rfl ?_
     refine C3 [2, 5, 6] (al := [(.ptr 2 0), (.agg [(.str ((nth l i).name)), (.int .i64 ((nth l i).prio)), (.bool ((nth l i).inst)), (Ah 12 Ak ((nth l i).pkgs))])]) (al' := [(.ptr 0 0), (.agg [(.str ((nth l i).name)), (.int .i64 ((nth l i).prio)), (.bool ((nth l i).inst)), (Ah 12 Ak ((nth l i).pkgs))])]) (r := (.int .i64 (B2 (Ad (Ac kind) (l.take i)).1 (nth l i)))) (r' := (.int .i64 (B2 (Ad (Ac kind) (l.take i)).1 (nth l i)))) (s' := [(1, (Ah 4 A5 l)), (6, (.ptr 1 0)), (8, (.ptr 2 0)), (10, (.int .i64 ((i : Int)))), (35, (.ptr 1 0)), (39, (.agg [(.str ((nth l i).name)), (.int .i64 ((nth l i).prio)), (.bool ((nth l i).inst)), (Ah 12 Ak ((nth l i).pkgs))])), (41, (.ptr 2 0)), (45, (.agg [(.str ((nth l i).name)), (.int .i64 ((nth l i).prio)), (.bool ((nth l i).inst)), (Ah 12 Ak ((nth l i).pkgs))])), (40, (.int .i64 (B2 (Ad (Ac kind) (l.take i)).1 (nth l i)))), (46, (.int .i64 (B2 (Ad (Ac kind) (l.take i)).1 (nth l i))))]) (H := [(0, (.row [(.int .i64 ((Ad (Ac kind) (l.take i)).1.kind)), (.own 1), (.own 2)] 107)), (1, (.grow (((Ad (Ac kind) (l.take i)).1).repos.map A5) 41 4)), (2, (.grow (((Ad (Ac kind) (l.take i)).2).map atX) 128 2))]) (H' := [(0, (.row [(.int .i64 ((Bk (Ad (Ac kind) (l.take i)).1 (nth l i)).kind)), (.own 1), (.own 2)] 107)), (1, (.grow ((Bk (Ad (Ac kind) (l.take i)).1 (nth l i)).repos.map A5) 41 4)), (2, (.grow ((D1 (Ad (Ac kind) (l.take i)).2 (Ad (Ac kind) (l.take i)).1 (nth l i)).map atX) 128 2))]) (h2 := [(0, (.mm (Au (Bk (Ad (Ac kind) (l.take i)).1 (nth l i)).all) none 3 1)), (1, (.row [(.int .i64 ((Bk (Ad (Ac kind) (l.take i)).1 (nth l i)).kind)), (.own 3), (.own 4), (.map 0)] 92)), (2, (.row [(.int .i64 ((Bk (Ad (Ac kind) (l.take i)).1 (nth l i)).kind)), (.own 5), (.own 6)] 107)), (3, (.grow ((Bk (Ad (Ac kind) (l.take i)).1 (nth l i)).repos.map Av) 41 4)), (4, (.grow ((Bk (Ad (Ac kind) (l.take i)).1 (nth l i)).all.map Am) 97 13)), (5, (.grow ((Bk (Ad (Ac kind) (l.take i)).1 (nth l i)).repos.map A5) 41 4)), (6, (.grow ((D1 (Ad (Ac kind) (l.take i)).2 (Ad (Ac kind) (l.take i)).1 (nth l i)).map atX) 128 2))]) (by kernel_rfl) (by exact Yx) (by kernel_rfl) (by kernel_rfl) (by kernel_rfl) (by kernel_rfl) (by kernel_rfl) (Uv (Ad (Ac kind) (l.take i)).1 (Ad (Ac kind) (l.take i)).2 (nth l i) hb.1 hb.2.1 hb.2.2 (by omega) (by omega) (fun j hj => Nat.le_trans (RepoT.size_pkg hj) (hl i (by omega)))) (by kernel_rfl) (by kernel_rfl) (by kernel_rfl) ?_
     refine Be ⟨rfl, ?_⟩
     refine Cp (fuel := 0) [] [12] [1, 6, 8, 10, 47] Aw ?_
     refine An [1, 6, 8, 10, 47] ?_
     refine Gn (by kernel_rfl) ?_
     refine Cj (p := (B2 (Ad (Ac kind) (l.take i)).1 (nth l i)) = (B2 (Ad (Ac kind) (l.take i)).1 (nth l i))) (by kernel_rfl) (fun c5 => ?_) (fun c5 => ?_)
     ·exact absurd rfl c5
     ·refine Ai ?_
      refine Ar ?_
      refine A2 0 [] [1, 6, 8, 10] [] hk0 v0 (cc 1 (p := (-9223372036854775808 ≤ (i : Int) + 1 ∧ (i : Int) + 1 ≤ 9223372036854775807)) (by omega) <| c0) ?_
      refine ⟨by kernel_rfl, _, ?_, i + 1, ?_, (Eq.trans (b := (⟨[(1, (Ah 4 A5 l)), (6, (.ptr 1 0)), (8, (.ptr 2 0)), (10, (.int .i64 ((i : Int) + 1)))], [(0, (.mm (Au (Bk (Ad (Ac kind) (l.take i)).1 (nth l i)).all) none 3 1)), (1, (.row [(.int .i64 ((Bk (Ad (Ac kind) (l.take i)).1 (nth l i)).kind)), (.own 3), (.own 4), (.map 0)] 92)), (2, (.row [(.int .i64 ((Bk (Ad (Ac kind) (l.take i)).1 (nth l i)).kind)), (.own 5), (.own 6)] 107)), (3, (.grow ((Bk (Ad (Ac kind) (l.take i)).1 (nth l i)).repos.map Av) 41 4)), (4, (.grow ((Bk (Ad (Ac kind) (l.take i)).1 (nth l i)).all.map Am) 97 13)), (5, (.grow ((Bk (Ad (Ac kind) (l.take i)).1 (nth l i)).repos.map A5) 41 4)), (6, (.grow ((D1 (Ad (Ac kind) (l.take i)).2 (Ad (Ac kind) (l.take i)).1 (nth l i)).map atX) 128 2))], 7⟩ : St)) (by kernel_rfl) (by rw [Z6 (by omega)] <;> kernel_rfl)), rfl⟩
      ·omega
      ·omega
    ·refine Bl ?_
     refine Ab ?_
     refine Ar ?_
     refine Gm 1 1 (y := ⟨[(1, (Ah 4 A5 l)), (6, (.ptr 1 0)), (8, (.ptr 2 0)), (10, (.int .i64 ((i : Int)))), (32, (.bool (decide ((i : Int) < (l.length : Int)))))], [(0, (.mm (Au ((Ad (Ac kind) (l.take i)).1).all) none 3 1)), (1, (.row [(.int .i64 ((Ad (Ac kind) (l.take i)).1.kind)), (.row 4 (((Ad (Ac kind) (l.take i)).1).repos.map Av).length (fun ix => (((Ad (Ac kind) (l.take i)).1).repos.map Av).getD ix Bh)), (.own 4), (.map 0)] 92)), (2, (.row [(.int .i64 ((Ad (Ac kind) (l.take i)).1.kind)), (.own 5), (.own 6)] 107)), (4, (.grow (((Ad (Ac kind) (l.take i)).1).all.map Am) 97 13)), (5, (.grow (((Ad (Ac kind) (l.take i)).1).repos.map A5) 41 4)), (6, (.grow (((Ad (Ac kind) (l.take i)).2).map atX) 128 2))], 7⟩) (by kernel_rfl) ?_
     refine Gm 1 2 (y := ⟨[(1, (Ah 4 A5 l)), (6, (.ptr 1 0)), (8, (.ptr 2 0)), (10, (.int .i64 ((i : Int)))), (32, (.bool (decide ((i : Int) < (l.length : Int)))))], [(0, (.mm (Au ((Ad (Ac kind) (l.take i)).1).all) none 3 1)), (1, (.row [(.int .i64 ((Ad (Ac kind) (l.take i)).1.kind)), (.row 4 (((Ad (Ac kind) (l.take i)).1).repos.map Av).length (fun ix => (((Ad (Ac kind) (l.take i)).1).repos.map Av).getD ix Bh)), (.row 13 (((Ad (Ac kind) (l.take i)).1).all.map Am).length (fun ix => (((Ad (Ac kind) (l.take i)).1).all.map Am).getD ix Bh)), (.map 0)] 92)), (2, (.row [(.int .i64 ((Ad (Ac kind) (l.take i)).1.kind)), (.own 5), (.own 6)] 107)), (5, (.grow (((Ad (Ac kind) (l.take i)).1).repos.map A5) 41 4)), (6, (.grow (((Ad (Ac kind) (l.take i)).2).map atX) 128 2))], 7⟩) (by kernel_rfl) ?_
     refine Gm 1 3 (y := ⟨[(1, (Ah 4 A5 l)), (6, (.ptr 1 0)), (8, (.ptr 2 0)), (10, (.int .i64 ((i : Int)))), (32, (.bool (decide ((i : Int) < (l.length : Int)))))], [(1, (.row [(.int .i64 ((Ad (Ac kind) (l.take i)).1.kind)), (.row 4 (((Ad (Ac kind) (l.take i)).1).repos.map Av).length (fun ix => (((Ad (Ac kind) (l.take i)).1).repos.map Av).getD ix Bh)), (.row 13 (((Ad (Ac kind) (l.take i)).1).all.map Am).length (fun ix => (((Ad (Ac kind) (l.take i)).1).all.map Am).getD ix Bh)), (.smap (.slice none 0 0) (fun kq => .row 1 ((Au ((Ad (Ac kind) (l.take i)).1).all) kq).length (fun ix => ((Au ((Ad (Ac kind) (l.take i)).1).all) kq).getD ix Bh)))] 92)), (2, (.row [(.int .i64 ((Ad (Ac kind) (l.take i)).1.kind)), (.own 5), (.own 6)] 107)), (5, (.grow (((Ad (Ac kind) (l.take i)).1).repos.map A5) 41 4)), (6, (.grow (((Ad (Ac kind) (l.take i)).2).map atX) 128 2))], 7⟩) (by kernel_rfl) ?_
     refine Gm 2 1 (y := ⟨[(1, (Ah 4 A5 l)), (6, (.ptr 1 0)), (8, (.ptr 2 0)), (10, (.int .i64 ((i : Int)))), (32, (.bool (decide ((i : Int) < (l.length : Int)))))], [(1, (.row [(.int .i64 ((Ad (Ac kind) (l.take i)).1.kind)), (.row 4 (((Ad (Ac kind) (l.take i)).1).repos.map Av).length (fun ix => (((Ad (Ac kind) (l.take i)).1).repos.map Av).getD ix Bh)), (.row 13 (((Ad (Ac kind) (l.take i)).1).all.map Am).length (fun ix => (((Ad (Ac kind) (l.take i)).1).all.map Am).getD ix Bh)), (.smap (.slice none 0 0) (fun kq => .row 1 ((Au ((Ad (Ac kind) (l.take i)).1).all) kq).length (fun ix => ((Au ((Ad (Ac kind) (l.take i)).1).all) kq).getD ix Bh)))] 92)), (2, (.row [(.int .i64 ((Ad (Ac kind) (l.take i)).1.kind)), (.row 4 (((Ad (Ac kind) (l.take i)).1).repos.map A5).length (fun ix => (((Ad (Ac kind) (l.take i)).1).repos.map A5).getD ix Bh)), (.own 6)] 107)), (6, (.grow (((Ad (Ac kind) (l.take i)).2).map atX) 128 2))], 7⟩) (by kernel_rfl) ?_
     refine Gm 2 2 (y := ⟨[(1, (Ah 4 A5 l)), (6, (.ptr 1 0)), (8, (.ptr 2 0)), (10, (.int .i64 ((i : Int)))), (32, (.bool (decide ((i : Int) < (l.length : Int)))))], [(1, (.row [(.int .i64 ((Ad (Ac kind) (l.take i)).1.kind)), (.row 4 (((Ad (Ac kind) (l.take i)).1).repos.map Av).length (fun ix => (((Ad (Ac kind) (l.take i)).1).repos.map Av).getD ix Bh)), (.row 13 (((Ad (Ac kind) (l.take i)).1).all.map Am).length (fun ix => (((Ad (Ac kind) (l.take i)).1).all.map Am).getD ix Bh)), (.smap (.slice none 0 0) (fun kq => .row 1 ((Au ((Ad (Ac kind) (l.take i)).1).all) kq).length (fun ix => ((Au ((Ad (Ac kind) (l.take i)).1).all) kq).getD ix Bh)))] 92)), (2, (.row [(.int .i64 ((Ad (Ac kind) (l.take i)).1.kind)), (.row 4 (((Ad (Ac kind) (l.take i)).1).repos.map A5).length (fun ix => (((Ad (Ac kind) (l.take i)).1).repos.map A5).getD ix Bh)), (.row 2 (((Ad (Ac kind) (l.take i)).2).map atX).length (fun ix => (((Ad (Ac kind) (l.take i)).2).map atX).getD ix Bh))] 107))], 7⟩) (by kernel_rfl) ?_
     refine D4 [] [4, 5] ?_
     refine Ag ?_
     refine RK wR [(.fp (.agg [(.int .i64 ((Ad (Ac kind) (l.take i)).1.kind)), (.row 4 (((Ad (Ac kind) (l.take i)).1).repos.map Av).length (fun ix => (((Ad (Ac kind) (l.take i)).1).repos.map Av).getD ix Bh)), (.row 13 (((Ad (Ac kind) (l.take i)).1).all.map Am).length (fun ix => (((Ad (Ac kind) (l.take i)).1).all.map Am).getD ix Bh)), (.smap (.slice none 0 0) (fun kq => .row 1 ((Au ((Ad (Ac kind) (l.take i)).1).all) kq).length (fun ix => ((Au ((Ad (Ac kind) (l.take i)).1).all) kq).getD ix Bh)))])), (.fp (.agg [(.int .i64 ((Ad (Ac kind) (l.take i)).1.kind)), (.row 4 (((Ad (Ac kind) (l.take i)).1).repos.map A5).length (fun ix => (((Ad (Ac kind) (l.take i)).1).repos.map A5).getD ix Bh)), (.row 2 (((Ad (Ac kind) (l.take i)).2).map atX).length (fun ix => (((Ad (Ac kind) (l.take i)).2).map atX).getD ix Bh))]))] ?_
     rw [show i = l.length from by omega, List.take_length]
     simp only [Aj]
     exact (Imp.tups (ImpL.cons (Imp.fp (Imp.aggs (ImpL.cons Imp.refl (ImpL.cons (Imp.list (f := Av) (List.length_map _)) (ImpL.cons (Imp.list (f := Am) (List.length_map _)) (ImpL.cons Imp.refl ImpL.nil)))))) (ImpL.cons (Imp.fp (Imp.aggs (ImpL.cons Imp.refl (ImpL.cons (Imp.list (f := A5) (List.length_map _)) (ImpL.cons (Imp.list (f := atX) (List.length_map _)) ImpL.nil))))) ImpL.nil))).same
end Sv
end Go.Proofs.YtlfjokcbkopfeaaGreatDoor
end
section
namespace Go.Proofs.YtlfjokcbkopfeaaGreatDoor
open Go Go.RowKit
namespace Sv
attribute [local irreducible] SW SO Bg
set_option maxHeartbeats 400000
set_option maxRecDepth 100000
theorem Yw : As Tryz.prog 42 := Ax Tryz.func42 (by kernel_rfl) rfl
theorem Yv : As Tryz.prog 43 := Ax Tryz.func43 (by kernel_rfl) rfl
theorem Yu : As Tryz.prog 44 := Ax Tryz.func44 (by kernel_rfl) rfl
theorem X29 (st : PoolT) :
  FnV Tryz.prog 42 [(.fp (D7 st))] (.int .i64 st.kind) := by
 refine Ba [.tmp 2] Tryz.func42 rfl Tryz.ntmps42 rfl rfl (fun B F hF => ?_)
 refine Aa [] [0] ?_
 refine Ab ?_
 refine Aa [] [0, 4] ?_
 refine Db (by kernel_rfl) ?_
 refine Ai ?_
 refine Aa [] [2] ?_
 refine Ag ?_
 refine RK wR [(.int .i64 st.kind)] ?_
 exact Same.of_eq (by first | rfl | (simp only [Aj]; simp_all))
theorem X25 (st : PoolT) :
  FnV Tryz.prog 43 [(.fp (D7 st))] (.int .i64 ((st.all.length : Int))) := by
 refine Ba [.tmp 2] Tryz.func43 rfl Tryz.ntmps43 rfl rfl (fun B F hF => ?_)
 refine Aa [] [0] ?_
 refine Ab ?_
 refine Aa [] [0, 4] ?_
 refine Db (by kernel_rfl) ?_
 refine Ai ?_
 refine Aa [] [2] ?_
 refine Ag ?_
 refine RK wR [(.int .i64 ((st.all.length : Int)))] ?_
 exact Same.of_eq (by first | rfl | (simp only [Aj]; simp_all))
theorem X20 (st : PoolT) (i : Nat) (hi : i < st.all.length) (hs : (nth st.all i).1.size ≤ 4194304) :
  FnV Tryz.prog 44 [(.fp (D7 st)), (.int .i64 ((i : Int)))] (.tup [Ak (nth st.all i).1, .int .i64 (nth st.all i).2, .int .i64 0]) := by
 refine Ba [.cell 4 38, .tmp 5, .tmp 6] Tryz.func44 rfl Tryz.ntmps44 rfl rfl (fun B F hF => ?_)
 refine Aa [] [0, 1, 4] ?_
 refine Ab ?_
 refine A3 ?_
 refine Aa [] [0, 1, 4, 7] ?_
 refine Db (by kernel_rfl) ?_
 obtain ⟨b1, hb1⟩ : ∃ b, b = (decide ((i : Int) < 0)) := ⟨_, rfl⟩
 obtain ⟨b2, hb2⟩ : ∃ b, b = (b1 || (decide ((st.all.length : Int) ≤ (i : Int)))) := ⟨_, rfl⟩
 refine Ae (CS := [(5, ((!b1) = true → (!b1) = true)), (6, ((!b1) = true → (!b1) = true)), (7, ((!b1) = true → (!b1) = true)), (8, ((!b1) = true → (!b1) = true)), (9, ((!b1) = true → (!b1) = true ∧ (!b1) = true)), (10, (b1 = false → (!b1) = true))]) [15, 16, 17, 18, 19, 20, 21] [0, 1, 4, 11] [] hk0 (vk 3 14 (a := .bool (decide ((i : Int) < 0))) (b := .bool b1) (Imp.of_eq (by rw [hb1])) <| vk 11 22 (a := .bool (b1 || (decide ((st.all.length : Int) ≤ (i : Int))))) (b := .bool b2) (Imp.of_eq (by rw [hb2])) <| v0) (by refine cc _ ?_ <| cc _ ?_ <| cc _ ?_ <| cc _ ?_ <| cc _ ?_ <| cc _ ?_ c0 <;> simp) ?_
 refine A9 (q := b2) (by kernel_rfl) (fun c1 => ?_) (fun c1 => ?_)
 ·subst hb2 hb1
  try simp only [Al] at c1
  exfalso; simp at c1; omega
 ·subst hb2 hb1
  try simp only [Al] at c1
  refine Ai ?_
  refine Cg (CS := [(5, (0 ≤ (i : Int) ∧ i < st.all.length)), (14, (0 ≤ (i : Int) ∧ i < st.all.length))]) [] [4, 5, 6] [] (hk 8 Jw (J0 (nth st.all i).1 (by have := (nth st.all i).1.sizes; omega) (by have := (nth st.all i).1.sizes; have := Fb (nth st.all i).1.files; omega)) <| hk0) v0 (by refine cc _ ?_ <| cc _ ?_ c0 <;> omega) ?_
  refine Ag ?_
  refine RK wR [(Ak ((nth st.all i).1)), (.int .i64 ((nth st.all i).2)), (.int .i64 0)] ?_
  exact Same.of_eq (by first | rfl | (simp only [Aj]; simp_all))
end Sv
end Go.Proofs.YtlfjokcbkopfeaaGreatDoor
end
section
namespace Go.Proofs.YtlfjokcbkopfeaaGreatDoor
open Go Go.RowKit
namespace Sv
attribute [local irreducible] SW SO Bg
set_option maxHeartbeats 1000000
set_option maxRecDepth 100000
theorem Zm : As Tryz.prog 10 := Ax Tryz.func10 (by kernel_rfl) rfl
theorem Lc : As Tryz.prog 45 := Ax Tryz.func45 (by kernel_rfl) rfl
structure OfferT where
 id : Int
 own : Bool
 op : Int
 evr : List UInt8
 deriving Inhabited
noncomputable def Hy (o : OfferT) : AV := .agg [.int .i64 o.id, .bool o.own, .int .i64 o.op, .str o.evr]
def B8 (ps : List (List UInt8 × OfferT)) (s : List UInt8) : List OfferT := (ps.filter fun q => decide (q.1 = s)).map fun q => q.2
noncomputable def A6 (ps : List (List UInt8 × OfferT)) (s : List UInt8) : List AV := (B8 ps s).map Hy
theorem Wf (ps : List (List UInt8 × OfferT)) (s : List UInt8) (o : OfferT) : Dm (A6 ps) s (A6 ps s ++ [Hy o]) = A6 (ps ++ [(s, o)]) := by
 funext t
 unfold Dm A6 B8
 rw [List.filter_append, List.map_append, List.map_append]
 by_cases h : t = s
 ·subst h; rw [if_pos rfl]; simp
 ·rw [if_neg h]
  have : ¬ s = t := fun q => h q.symm
  simp [this]
theorem Ji (ps : List (List UInt8 × OfferT)) (s : List UInt8) : (A6 ps s).length ≤ ps.length := by
 unfold A6 B8
 rw [List.length_map, List.length_map]; exact List.length_filter_le _ _
def Cz (i : Nat) (p : PkgT) (j : Nat) : List (List UInt8 × OfferT) := (p.name, ⟨i, true, 2, p.evr⟩) :: (p.provides.take j).map fun d => (d.name, ⟨i, false, d.op, d.evr⟩)
def Cl (i : Nat) (p : PkgT) (j : Nat) : List (List UInt8 × OfferT) := Cz i p p.provides.length ++ (p.files.take j).map fun f => (f, ⟨i, false, 0, []⟩)
def D6 (i : Nat) (p : PkgT) : List (List UInt8 × OfferT) := Cl i p p.files.length
def Bc (l : List (PkgT × Int)) (n : Nat) : List (List UInt8 × OfferT) := (List.range n).flatMap fun i => D6 i (nth l i).1
theorem Vb {i : Nat} {p : PkgT} {j : Nat} (h : j < p.provides.length) : Cz i p (j + 1) = Cz i p j ++ [((nth p.provides j).name, ⟨i, false, (nth p.provides j).op, (nth p.provides j).evr⟩)] := by
 unfold Cz
 rw [List.take_add_one, List.getElem?_eq_getElem h, List.map_append]
 simp [nth, h]
theorem Va {i : Nat} {p : PkgT} {j : Nat} (h : j < p.files.length) : Cl i p (j + 1) = Cl i p j ++ [(nth p.files j, ⟨i, false, 0, []⟩)] := by
 unfold Cl
 rw [List.take_add_one, List.getElem?_eq_getElem h, List.map_append, List.append_assoc]
 simp [nth, h]
theorem Nv {l : List (PkgT × Int)} {n : Nat} : Bc l (n + 1) = Bc l n ++ D6 n (nth l n).1 := by
 unfold Bc
 rw [List.range_succ, List.flatMap_append]; simp
theorem Jd {i : Nat} {p : PkgT} {j : Nat} : (Cz i p j).length ≤ 1 + p.provides.length := by
 unfold Cz; simp only [List.length_cons, List.length_map, List.length_take]; omega
theorem Jc {i : Nat} {p : PkgT} {j : Nat} : (Cl i p j).length ≤ 1 + p.provides.length + p.files.length := by
 have := Jd (i := i) (p := p) (j := p.provides.length)
 unfold Cl; simp only [List.length_append, List.length_map, List.length_take]; omega
theorem Qp {l : List (PkgT × Int)} (hs : ∀ i, i < l.length → (nth l i).1.size ≤ 4194304) : ∀ n, n ≤ l.length → (Bc l n).length ≤ n * 8388609 := by
 intro n
 induction n with
 | zero => intro _; exact Nat.le_refl _
 | succ n ih =>
  intro h
  have h1 := ih (by omega)
  have h2 := Jc (i := n) (p := (nth l n).1) (j := (nth l n).1.files.length)
  have h3 := (nth l n).1.sizes
  have h4 := hs n (by omega)
  have h5 := Ds (nth l n).1.provides
  have h6 := Fb (nth l n).1.files
  have h7 : argsSize (nth l n).1.provides ≤ (nth l n).1.depSize := by unfold PkgT.depSize; omega
  rw [Nv, List.length_append]
  unfold D6
  omega
noncomputable def Cb (st : PoolT) : AV := .agg [.int .i64 st.kind, .int .i64 (st.all.length : Int), .smap (.slice none 0 0) (fun s => .row 4 (A6 (Bc st.all st.all.length) s).length (fun i => (A6 (Bc st.all st.all.length) s).getD i Bh))]
theorem Kq (kind count : Int) (ps : List (List UInt8 × OfferT)) (s : List UInt8) (o : OfferT) (hl : (A6 ps s).length ≤ 2147483648) :
  Dj Tryz.prog 45 [(.str s), (.agg [(.int .i64 o.id), (.bool o.own), (.int .i64 o.op), (.str o.evr)]), (.ptr 0 0)] [(0, (.row [(.ptr 1 0)] 32)), (1, (.row [(.int .i64 kind), (.int .i64 count), (.map 2)] 80)), (2, (.mm (A6 ps) none 84 4))] 3 (.tup []) [(0, (.row [(.ptr 1 0)] 32)), (1, (.row [(.int .i64 kind), (.int .i64 count), (.map 2)] 80)), (2, (.mm (A6 (ps ++ [(s, o)])) none 84 4))] := by
 refine Fh [] Tryz.func45 rfl Tryz.ntmps45 rfl rfl (by kernel_rfl) (by kernel_rfl) (by kernel_rfl) (fun B F hF => ?_)
 refine Aa [] [0, 2, 4] ?_
 refine Pl 4 (y := ⟨[(0, (.str s)), (2, (.ptr 0 0)), (4, (.fp (.agg [(.int .i64 o.id), (.bool o.own), (.int .i64 o.op), (.str o.evr)])))], [(0, (.row [(.ptr 1 0)] 32)), (1, (.row [(.int .i64 kind), (.int .i64 count), (.map 2)] 80)), (2, (.mm (A6 ps) none 84 4))], 4⟩) (by kernel_rfl) ?_
 refine Hr (by kernel_rfl) (fun F1 hF1 => ?_)
 refine Bn false 1 (lsD 15 [0, 1, 2, 3, 4, 5, 6, 7, 8, 9, 10, 11, 12, 13]) ⟨[(8, (.map 2)), (9, (.str s)), (18, (.own 4))], [(0, (.row [(.ptr 1 0)] 32)), (1, (.row [(.int .i64 kind), (.int .i64 count), (.map 2)] 80)), (2, (.mm (A6 ps) (some s) 84 4)), (4, (.grow (((A6 ps) s) ++ ([(.agg [(.int .i64 o.id), (.bool o.own), (.int .i64 o.op), (.str o.evr)])] : List AV)) 84 4)), (5, (.row [(.int .i64 o.id), (.bool o.own), (.int .i64 o.op), (.str o.evr)] 84))], 6⟩ ?_ (fun m1_1 => ?_)
 ·refine Dt (fuel := 0) 14 (by kernel_rfl) ?_
  refine Bm (fuel := 0) 14 rfl ?_
  refine Pn (b := 2) (c := 4) (s := s) (s1 := s) (y := ⟨[(8, (.map 2)), (9, (.str s)), (18, (.own 4))], [(0, (.row [(.ptr 1 0)] 32)), (1, (.row [(.int .i64 kind), (.int .i64 count), (.map 2)] 80)), (2, (.mm (Dm (A6 ps) s (((A6 ps) s) ++ ([(.agg [(.int .i64 o.id), (.bool o.own), (.int .i64 o.op), (.str o.evr)])] : List AV))) none 84 4)), (5, (.row [(.int .i64 o.id), (.bool o.own), (.int .i64 o.op), (.str o.evr)] 84))], 6⟩) (by kernel_rfl) (by kernel_rfl) (by kernel_rfl) (by kernel_rfl) (by kernel_rfl) rfl Tryz.underlying78 Tryz.underlying9 (by kernel_rfl) rfl ?_
  refine Be ⟨rfl, ?_⟩
  refine An [] ?_
  refine Gn (by kernel_rfl) ?_
  refine Dd (.inr rfl) (al := []) (by kernel_rfl) ?_ ((by kernel_rfl : Cq 3 _ = some [(0, (.row [(.ptr 1 0)] 32)), (1, (.row [(.int .i64 kind), (.int .i64 count), (.map 2)] 80)), (2, (.mm (Dm (A6 ps) s (((A6 ps) s) ++ ([(.agg [(.int .i64 o.id), (.bool o.own), (.int .i64 o.op), (.str o.evr)])] : List AV))) none 84 4))]).trans ?_)
  ·rfl
  ·rw [show (Dm (A6 ps) s (((A6 ps) s) ++ ([(.agg [(.int .i64 o.id), (.bool o.own), (.int .i64 o.op), (.str o.evr)])] : List AV))) = A6 (ps ++ [(s, o)]) from Wf ps s o] <;> kernel_rfl
 refine Bn false 1 (lsD 15 [0, 1, 2, 3, 4, 5, 6, 7, 8, 9, 10, 11, 12, 13]) ⟨[(8, (.map 2)), (9, (.str s)), (18, (.own 5))], [(0, (.row [(.ptr 1 0)] 32)), (1, (.row [(.int .i64 kind), (.int .i64 count), (.map 2)] 80)), (2, (.mm (A6 ps) (some s) 84 4)), (4, (.row [(.int .i64 o.id), (.bool o.own), (.int .i64 o.op), (.str o.evr)] 84)), (5, (.grow (((A6 ps) s) ++ ([(.agg [(.int .i64 o.id), (.bool o.own), (.int .i64 o.op), (.str o.evr)])] : List AV)) 84 4))], 6⟩ ?_ (fun m1_2 => ?_)
 ·refine Dt (fuel := 0) 14 (by kernel_rfl) ?_
  refine Bm (fuel := 0) 14 rfl ?_
  refine Pn (b := 2) (c := 5) (s := s) (s1 := s) (y := ⟨[(8, (.map 2)), (9, (.str s)), (18, (.own 5))], [(0, (.row [(.ptr 1 0)] 32)), (1, (.row [(.int .i64 kind), (.int .i64 count), (.map 2)] 80)), (2, (.mm (Dm (A6 ps) s (((A6 ps) s) ++ ([(.agg [(.int .i64 o.id), (.bool o.own), (.int .i64 o.op), (.str o.evr)])] : List AV))) none 84 4)), (4, (.row [(.int .i64 o.id), (.bool o.own), (.int .i64 o.op), (.str o.evr)] 84))], 6⟩) (by kernel_rfl) (by kernel_rfl) (by kernel_rfl) (by kernel_rfl) (by kernel_rfl) rfl Tryz.underlying78 Tryz.underlying9 (by kernel_rfl) rfl ?_
  refine Be ⟨rfl, ?_⟩
  refine An [] ?_
  refine Gn (by kernel_rfl) ?_
  refine Dd (.inr rfl) (al := []) (by kernel_rfl) ?_ ((by kernel_rfl : Cq 3 _ = some [(0, (.row [(.ptr 1 0)] 32)), (1, (.row [(.int .i64 kind), (.int .i64 count), (.map 2)] 80)), (2, (.mm (Dm (A6 ps) s (((A6 ps) s) ++ ([(.agg [(.int .i64 o.id), (.bool o.own), (.int .i64 o.op), (.str o.evr)])] : List AV))) none 84 4))]).trans ?_)
  ·rfl
  ·rw [show (Dm (A6 ps) s (((A6 ps) s) ++ ([(.agg [(.int .i64 o.id), (.bool o.own), (.int .i64 o.op), (.str o.evr)])] : List AV))) = A6 (ps ++ [(s, o)]) from Wf ps s o] <;> kernel_rfl
 refine Bn false 2 (lsD 15 [0, 1, 2, 3, 4, 5, 6, 7, 8, 9, 10, 11, 12]) ⟨[(8, (.map 2)), (9, (.str s)), (15, (.own 4)), (17, (.sl 5 0 1 1 false))], [(0, (.row [(.ptr 1 0)] 32)), (1, (.row [(.int .i64 kind), (.int .i64 count), (.map 2)] 80)), (2, (.mm (A6 ps) (some s) 84 4)), (4, (.grow ((A6 ps) s) 84 4)), (5, (.row [(.int .i64 o.id), (.bool o.own), (.int .i64 o.op), (.str o.evr)] 84))], 6⟩ ?_ (fun m1_3 => ?_)
 ·refine Cs (fuel := 1) 13 [] (hold (p := ((((A6 ps) s).length + 1) * 40 ≤ 140737488355328)) (by omega)) ?_
  refine An [8, 9, 18] ?_
  exact A1 m1_1
 refine Bn false 2 (lsD 15 [0, 1, 2, 3, 4, 5, 6, 7, 8, 9, 10, 11, 12]) ⟨[(8, (.map 2)), (9, (.str s)), (15, (.own 5)), (17, (.sl 4 0 1 1 false))], [(0, (.row [(.ptr 1 0)] 32)), (1, (.row [(.int .i64 kind), (.int .i64 count), (.map 2)] 80)), (2, (.mm (A6 ps) (some s) 84 4)), (4, (.row [(.int .i64 o.id), (.bool o.own), (.int .i64 o.op), (.str o.evr)] 84)), (5, (.grow ((A6 ps) s) 84 4))], 6⟩ ?_ (fun m1_4 => ?_)
 ·refine Cs (fuel := 1) 13 [] (hold (p := ((((A6 ps) s).length + 1) * 40 ≤ 140737488355328)) (by omega)) ?_
  refine An [8, 9, 18] ?_
  exact A1 m1_2
 refine Bn false 2 (lsD 15 [0, 1, 2, 4, 5, 6, 7, 8, 9, 10, 11, 12, 13]) ⟨[(7, (.ptr 1 2)), (9, (.str s)), (18, (.own 4))], [(0, (.row [(.ptr 1 0)] 32)), (1, (.row [(.int .i64 kind), (.int .i64 count), (.map 2)] 80)), (2, (.mm (A6 ps) (some s) 84 4)), (4, (.grow (((A6 ps) s) ++ ([(.agg [(.int .i64 o.id), (.bool o.own), (.int .i64 o.op), (.str o.evr)])] : List AV)) 84 4)), (5, (.row [(.int .i64 o.id), (.bool o.own), (.int .i64 o.op), (.str o.evr)] 84))], 6⟩ ?_ (fun m1_5 => ?_)
 ·refine Cs (fuel := 1) 3 [] Aw ?_
  refine An [8, 9, 18] ?_
  exact A1 m1_1
 refine Bn false 2 (lsD 15 [0, 1, 2, 4, 5, 6, 7, 8, 9, 10, 11, 12, 13]) ⟨[(7, (.ptr 1 2)), (9, (.str s)), (18, (.own 5))], [(0, (.row [(.ptr 1 0)] 32)), (1, (.row [(.int .i64 kind), (.int .i64 count), (.map 2)] 80)), (2, (.mm (A6 ps) (some s) 84 4)), (4, (.row [(.int .i64 o.id), (.bool o.own), (.int .i64 o.op), (.str o.evr)] 84)), (5, (.grow (((A6 ps) s) ++ ([(.agg [(.int .i64 o.id), (.bool o.own), (.int .i64 o.op), (.str o.evr)])] : List AV)) 84 4))], 6⟩ ?_ (fun m1_6 => ?_)
 ·refine Cs (fuel := 1) 3 [] Aw ?_
  refine An [8, 9, 18] ?_
  exact A1 m1_2
 refine Bn false 3 (lsD 15 [0, 1, 2, 3, 4, 5, 6, 7, 8, 9, 10, 11]) ⟨[(8, (.map 2)), (9, (.str s)), (15, (.own 4)), (16, (.agg [(.int .i64 o.id), (.bool o.own), (.int .i64 o.op), (.str o.evr)]))], [(0, (.row [(.ptr 1 0)] 32)), (1, (.row [(.int .i64 kind), (.int .i64 count), (.map 2)] 80)), (2, (.mm (A6 ps) (some s) 84 4)), (4, (.grow ((A6 ps) s) 84 4))], 5⟩ ?_ (fun m1_7 => ?_)
 ·refine Cs (fuel := 2) 12 [] Aw ?_
  refine An [8, 9, 15, 17] ?_
  exact A1 m1_3
 refine Bn true 3 (lsD 15 [0, 1, 2, 3, 4, 5, 6, 7, 8, 9, 11, 12]) ⟨[(8, (.map 2)), (9, (.str s)), (13, (.map 2)), (14, (.str s)), (17, (.sl 4 0 1 1 false))], [(0, (.row [(.ptr 1 0)] 32)), (1, (.row [(.int .i64 kind), (.int .i64 count), (.map 2)] 80)), (2, (.mm (A6 ps) none 84 4)), (4, (.row [(.int .i64 o.id), (.bool o.own), (.int .i64 o.op), (.str o.evr)] 84))], 5⟩ ?_ (fun m1_8 => ?_)
 ·refine Dt (fuel := 2) 10 (by kernel_rfl) ?_
  refine Bm (fuel := 2) 10 rfl ?_
  refine Es (b := 2) (s := s) (y := ⟨[(8, (.map 2)), (9, (.str s)), (13, (.map 2)), (14, (.str s)), (17, (.sl 4 0 1 1 false)), (15, (.own 5))], [(0, (.row [(.ptr 1 0)] 32)), (1, (.row [(.int .i64 kind), (.int .i64 count), (.map 2)] 80)), (2, (.mm (A6 ps) (some s) 84 4)), (4, (.row [(.int .i64 o.id), (.bool o.own), (.int .i64 o.op), (.str o.evr)] 84)), (5, (.grow ((A6 ps) s) 84 4))], 6⟩) (by kernel_rfl) (by kernel_rfl) (by kernel_rfl) Tryz.underlying78 Tryz.underlying9 (fun _ => by kernel_rfl) (by kernel_rfl) ?_
  refine Be ⟨rfl, ?_⟩
  refine An [8, 9, 15, 17] ?_
  exact A1 m1_4
 refine Bn false 3 (lsD 15 [0, 1, 2, 4, 5, 6, 7, 8, 9, 10, 11, 12]) ⟨[(7, (.ptr 1 2)), (9, (.str s)), (15, (.own 4)), (17, (.sl 5 0 1 1 false))], [(0, (.row [(.ptr 1 0)] 32)), (1, (.row [(.int .i64 kind), (.int .i64 count), (.map 2)] 80)), (2, (.mm (A6 ps) (some s) 84 4)), (4, (.grow ((A6 ps) s) 84 4)), (5, (.row [(.int .i64 o.id), (.bool o.own), (.int .i64 o.op), (.str o.evr)] 84))], 6⟩ ?_ (fun m1_9 => ?_)
 ·refine Bp 3 13 (by kernel_rfl) ?_ ?_
  ·refine Bb (fuel := 2) 3 [] Aw ?_
   refine An [8, 9, 15, 17] ?_
   exact A1 m1_3
  ·refine Bb (fuel := 2) 13 [] (hold (p := ((((A6 ps) s).length + 1) * 40 ≤ 140737488355328)) (by omega)) ?_
   refine An [7, 9, 18] ?_
   exact A1 m1_5
 refine Bn false 3 (lsD 15 [0, 1, 2, 4, 5, 6, 7, 8, 9, 10, 11, 12]) ⟨[(7, (.ptr 1 2)), (9, (.str s)), (15, (.own 5)), (17, (.sl 4 0 1 1 false))], [(0, (.row [(.ptr 1 0)] 32)), (1, (.row [(.int .i64 kind), (.int .i64 count), (.map 2)] 80)), (2, (.mm (A6 ps) (some s) 84 4)), (4, (.row [(.int .i64 o.id), (.bool o.own), (.int .i64 o.op), (.str o.evr)] 84)), (5, (.grow ((A6 ps) s) 84 4))], 6⟩ ?_ (fun m1_10 => ?_)
 ·refine Bp 3 13 (by kernel_rfl) ?_ ?_
  ·refine Bb (fuel := 2) 3 [] Aw ?_
   refine An [8, 9, 15, 17] ?_
   exact A1 m1_4
  ·refine Bb (fuel := 2) 13 [] (hold (p := ((((A6 ps) s).length + 1) * 40 ≤ 140737488355328)) (by omega)) ?_
   refine An [7, 9, 18] ?_
   exact A1 m1_6
 refine Bn true 4 (lsD 15 [0, 1, 2, 3, 4, 5, 6, 7, 8, 9, 11]) ⟨[(8, (.map 2)), (9, (.str s)), (13, (.map 2)), (14, (.str s)), (16, (.agg [(.int .i64 o.id), (.bool o.own), (.int .i64 o.op), (.str o.evr)]))], [(0, (.row [(.ptr 1 0)] 32)), (1, (.row [(.int .i64 kind), (.int .i64 count), (.map 2)] 80)), (2, (.mm (A6 ps) none 84 4))], 4⟩ ?_ (fun m1_11 => ?_)
 ·refine Bp 10 12 (by kernel_rfl) ?_ ?_
  ·refine Bm (fuel := 3) 10 rfl ?_
   refine Es (b := 2) (s := s) (y := ⟨[(8, (.map 2)), (9, (.str s)), (13, (.map 2)), (14, (.str s)), (16, (.agg [(.int .i64 o.id), (.bool o.own), (.int .i64 o.op), (.str o.evr)])), (15, (.own 4))], [(0, (.row [(.ptr 1 0)] 32)), (1, (.row [(.int .i64 kind), (.int .i64 count), (.map 2)] 80)), (2, (.mm (A6 ps) (some s) 84 4)), (4, (.grow ((A6 ps) s) 84 4))], 5⟩) (by kernel_rfl) (by kernel_rfl) (by kernel_rfl) Tryz.underlying78 Tryz.underlying9 (fun _ => by kernel_rfl) (by kernel_rfl) ?_
   refine Be ⟨rfl, ?_⟩
   refine An [8, 9, 15, 16] ?_
   exact A1 m1_7
  ·refine Bb (fuel := 3) 12 [] Aw ?_
   refine An [8, 9, 13, 14, 17] ?_
   exact A1 m1_8
 refine Bn true 4 (lsD 15 [0, 1, 2, 3, 4, 5, 6, 7, 9, 11, 12]) ⟨[(8, (.map 2)), (9, (.str s)), (12, (.ptr 1 2)), (14, (.str s)), (17, (.sl 4 0 1 1 false))], [(0, (.row [(.ptr 1 0)] 32)), (1, (.row [(.int .i64 kind), (.int .i64 count), (.map 2)] 80)), (2, (.mm (A6 ps) none 84 4)), (4, (.row [(.int .i64 o.id), (.bool o.own), (.int .i64 o.op), (.str o.evr)] 84))], 5⟩ ?_ (fun m1_12 => ?_)
 ·refine Cs (fuel := 3) 8 [] Aw ?_
  refine An [8, 9, 13, 14, 17] ?_
  exact A1 m1_8
 refine Bn false 4 (lsD 15 [0, 1, 2, 4, 5, 6, 7, 8, 9, 10, 11]) ⟨[(7, (.ptr 1 2)), (9, (.str s)), (15, (.own 4)), (16, (.agg [(.int .i64 o.id), (.bool o.own), (.int .i64 o.op), (.str o.evr)]))], [(0, (.row [(.ptr 1 0)] 32)), (1, (.row [(.int .i64 kind), (.int .i64 count), (.map 2)] 80)), (2, (.mm (A6 ps) (some s) 84 4)), (4, (.grow ((A6 ps) s) 84 4))], 5⟩ ?_ (fun m1_13 => ?_)
 ·refine Bp 3 12 (by kernel_rfl) ?_ ?_
  ·refine Bb (fuel := 3) 3 [] Aw ?_
   refine An [8, 9, 15, 16] ?_
   exact A1 m1_7
  ·refine Bb (fuel := 3) 12 [] Aw ?_
   refine An [7, 9, 15, 17] ?_
   exact A1 m1_9
 refine Bn true 4 (lsD 15 [0, 1, 2, 4, 5, 6, 7, 8, 9, 11, 12]) ⟨[(7, (.ptr 1 2)), (9, (.str s)), (13, (.map 2)), (14, (.str s)), (17, (.sl 4 0 1 1 false))], [(0, (.row [(.ptr 1 0)] 32)), (1, (.row [(.int .i64 kind), (.int .i64 count), (.map 2)] 80)), (2, (.mm (A6 ps) none 84 4)), (4, (.row [(.int .i64 o.id), (.bool o.own), (.int .i64 o.op), (.str o.evr)] 84))], 5⟩ ?_ (fun m1_14 => ?_)
 ·refine Bp 3 10 (by kernel_rfl) ?_ ?_
  ·refine Bb (fuel := 3) 3 [] Aw ?_
   refine An [8, 9, 13, 14, 17] ?_
   exact A1 m1_8
  ·refine Bm (fuel := 3) 10 rfl ?_
   refine Es (b := 2) (s := s) (y := ⟨[(7, (.ptr 1 2)), (9, (.str s)), (13, (.map 2)), (14, (.str s)), (17, (.sl 4 0 1 1 false)), (15, (.own 5))], [(0, (.row [(.ptr 1 0)] 32)), (1, (.row [(.int .i64 kind), (.int .i64 count), (.map 2)] 80)), (2, (.mm (A6 ps) (some s) 84 4)), (4, (.row [(.int .i64 o.id), (.bool o.own), (.int .i64 o.op), (.str o.evr)] 84)), (5, (.grow ((A6 ps) s) 84 4))], 6⟩) (by kernel_rfl) (by kernel_rfl) (by kernel_rfl) Tryz.underlying78 Tryz.underlying9 (fun _ => by kernel_rfl) (by kernel_rfl) ?_
   refine Be ⟨rfl, ?_⟩
   refine An [7, 9, 15, 17] ?_
   exact A1 m1_10
 refine Bn true 5 (lsD 15 [0, 1, 2, 3, 4, 5, 6, 7, 9, 11]) ⟨[(8, (.map 2)), (9, (.str s)), (12, (.ptr 1 2)), (14, (.str s)), (16, (.agg [(.int .i64 o.id), (.bool o.own), (.int .i64 o.op), (.str o.evr)]))], [(0, (.row [(.ptr 1 0)] 32)), (1, (.row [(.int .i64 kind), (.int .i64 count), (.map 2)] 80)), (2, (.mm (A6 ps) none 84 4))], 4⟩ ?_ (fun m1_15 => ?_)
 ·refine Bp 8 12 (by kernel_rfl) ?_ ?_
  ·refine Bb (fuel := 4) 8 [] Aw ?_
   refine An [8, 9, 13, 14, 16] ?_
   exact A1 m1_11
  ·refine Bb (fuel := 4) 12 [] Aw ?_
   refine An [8, 9, 12, 14, 17] ?_
   exact A1 m1_12
 refine Bn true 5 (lsD 15 [0, 1, 2, 4, 5, 6, 7, 8, 9, 11]) ⟨[(7, (.ptr 1 2)), (9, (.str s)), (13, (.map 2)), (14, (.str s)), (16, (.agg [(.int .i64 o.id), (.bool o.own), (.int .i64 o.op), (.str o.evr)]))], [(0, (.row [(.ptr 1 0)] 32)), (1, (.row [(.int .i64 kind), (.int .i64 count), (.map 2)] 80)), (2, (.mm (A6 ps) none 84 4))], 4⟩ ?_ (fun m1_16 => ?_)
 ·refine Fg 3 10 12 (by kernel_rfl) ?_ ?_ ?_
  ·refine Bb (fuel := 4) 3 [] Aw ?_
   refine An [8, 9, 13, 14, 16] ?_
   exact A1 m1_11
  ·refine Bm (fuel := 4) 10 rfl ?_
   refine Es (b := 2) (s := s) (y := ⟨[(7, (.ptr 1 2)), (9, (.str s)), (13, (.map 2)), (14, (.str s)), (16, (.agg [(.int .i64 o.id), (.bool o.own), (.int .i64 o.op), (.str o.evr)])), (15, (.own 4))], [(0, (.row [(.ptr 1 0)] 32)), (1, (.row [(.int .i64 kind), (.int .i64 count), (.map 2)] 80)), (2, (.mm (A6 ps) (some s) 84 4)), (4, (.grow ((A6 ps) s) 84 4))], 5⟩) (by kernel_rfl) (by kernel_rfl) (by kernel_rfl) Tryz.underlying78 Tryz.underlying9 (fun _ => by kernel_rfl) (by kernel_rfl) ?_
   refine Be ⟨rfl, ?_⟩
   refine An [7, 9, 15, 16] ?_
   exact A1 m1_13
  ·refine Bb (fuel := 4) 12 [] Aw ?_
   refine An [7, 9, 13, 14, 17] ?_
   exact A1 m1_14
 refine Bn true 5 (lsD 15 [0, 1, 2, 4, 5, 6, 7, 9, 11, 12]) ⟨[(7, (.ptr 1 2)), (9, (.str s)), (12, (.ptr 1 2)), (14, (.str s)), (17, (.sl 4 0 1 1 false))], [(0, (.row [(.ptr 1 0)] 32)), (1, (.row [(.int .i64 kind), (.int .i64 count), (.map 2)] 80)), (2, (.mm (A6 ps) none 84 4)), (4, (.row [(.int .i64 o.id), (.bool o.own), (.int .i64 o.op), (.str o.evr)] 84))], 5⟩ ?_ (fun m1_17 => ?_)
 ·refine Bp 3 8 (by kernel_rfl) ?_ ?_
  ·refine Bb (fuel := 4) 3 [] Aw ?_
   refine An [8, 9, 12, 14, 17] ?_
   exact A1 m1_12
  ·refine Bb (fuel := 4) 8 [] Aw ?_
   refine An [7, 9, 13, 14, 17] ?_
   exact A1 m1_14
 refine Bn true 7 (lsD 15 [0, 1, 2, 3, 4, 9, 11, 12]) ⟨[(2, (.ptr 0 0)), (8, (.map 2)), (9, (.str s)), (14, (.str s)), (17, (.sl 4 0 1 1 false))], [(0, (.row [(.ptr 1 0)] 32)), (1, (.row [(.int .i64 kind), (.int .i64 count), (.map 2)] 80)), (2, (.mm (A6 ps) none 84 4)), (4, (.row [(.int .i64 o.id), (.bool o.own), (.int .i64 o.op), (.str o.evr)] 84))], 5⟩ ?_ (fun m1_18 => ?_)
 ·refine Cs (fuel := 6) 5 [] Aw ?_
  refine Cp (fuel := 4) [] [6, 7] [8, 9, 12, 14, 17] Aw ?_
  refine Cs (fuel := 3) 8 [] Aw ?_
  refine An [8, 9, 13, 14, 17] ?_
  exact A1 m1_8
 refine Bn true 7 (lsD 15 [0, 1, 2, 4, 5, 9, 11, 12]) ⟨[(7, (.ptr 1 2)), (9, (.str s)), (10, (.ptr 1 0)), (14, (.str s)), (17, (.sl 4 0 1 1 false))], [(0, (.row [(.ptr 1 0)] 32)), (1, (.row [(.int .i64 kind), (.int .i64 count), (.map 2)] 80)), (2, (.mm (A6 ps) none 84 4)), (4, (.row [(.int .i64 o.id), (.bool o.own), (.int .i64 o.op), (.str o.evr)] 84))], 5⟩ ?_ (fun m1_19 => ?_)
 ·refine Cp (fuel := 5) [] [6, 7] [7, 9, 12, 14, 17] Aw ?_
  refine Bp 3 8 (by kernel_rfl) ?_ ?_
  ·refine Bb (fuel := 4) 3 [] Aw ?_
   refine An [8, 9, 12, 14, 17] ?_
   exact A1 m1_12
  ·refine Bb (fuel := 4) 8 [] Aw ?_
   refine An [7, 9, 13, 14, 17] ?_
   exact A1 m1_14
 refine Bn true 7 (lsD 15 [4, 5, 6, 7, 8, 9, 11, 12]) ⟨[(2, (.ptr 0 0)), (9, (.str s)), (13, (.map 2)), (14, (.str s)), (17, (.sl 4 0 1 1 false))], [(0, (.row [(.ptr 1 0)] 32)), (1, (.row [(.int .i64 kind), (.int .i64 count), (.map 2)] 80)), (2, (.mm (A6 ps) none 84 4)), (4, (.row [(.int .i64 o.id), (.bool o.own), (.int .i64 o.op), (.str o.evr)] 84))], 5⟩ ?_ (fun m1_20 => ?_)
 ·refine Bp 0 10 (by kernel_rfl) ?_ ?_
  ·refine Bb (fuel := 6) 0 [] Aw ?_
   refine An [5, 9, 13, 14, 17] ?_
   refine Cp (fuel := 4) [] [1, 2] [7, 9, 13, 14, 17] Aw ?_
   refine Bp 3 10 (by kernel_rfl) ?_ ?_
   ·refine Bb (fuel := 3) 3 [] Aw ?_
    refine An [8, 9, 13, 14, 17] ?_
    exact A1 m1_8
   ·refine Bm (fuel := 3) 10 rfl ?_
    refine Es (b := 2) (s := s) (y := ⟨[(7, (.ptr 1 2)), (9, (.str s)), (13, (.map 2)), (14, (.str s)), (17, (.sl 4 0 1 1 false)), (15, (.own 5))], [(0, (.row [(.ptr 1 0)] 32)), (1, (.row [(.int .i64 kind), (.int .i64 count), (.map 2)] 80)), (2, (.mm (A6 ps) (some s) 84 4)), (4, (.row [(.int .i64 o.id), (.bool o.own), (.int .i64 o.op), (.str o.evr)] 84)), (5, (.grow ((A6 ps) s) 84 4))], 6⟩) (by kernel_rfl) (by kernel_rfl) (by kernel_rfl) Tryz.underlying78 Tryz.underlying9 (fun _ => by kernel_rfl) (by kernel_rfl) ?_
    refine Be ⟨rfl, ?_⟩
    refine An [7, 9, 15, 17] ?_
    exact A1 m1_10
  ·refine Bm (fuel := 6) 10 rfl ?_
   refine Es (b := 2) (s := s) (y := ⟨[(2, (.ptr 0 0)), (9, (.str s)), (13, (.map 2)), (14, (.str s)), (17, (.sl 4 0 1 1 false)), (15, (.own 5))], [(0, (.row [(.ptr 1 0)] 32)), (1, (.row [(.int .i64 kind), (.int .i64 count), (.map 2)] 80)), (2, (.mm (A6 ps) (some s) 84 4)), (4, (.row [(.int .i64 o.id), (.bool o.own), (.int .i64 o.op), (.str o.evr)] 84)), (5, (.grow ((A6 ps) s) 84 4))], 6⟩) (by kernel_rfl) (by kernel_rfl) (by kernel_rfl) Tryz.underlying78 Tryz.underlying9 (fun _ => by kernel_rfl) (by kernel_rfl) ?_
   refine Be ⟨rfl, ?_⟩
   refine An [2, 9, 15, 17] ?_
   refine Bp 0 13 (by kernel_rfl) ?_ ?_
   ·refine Bb (fuel := 5) 0 [] Aw ?_
    refine An [5, 9, 15, 17] ?_
    refine Cp (fuel := 3) [] [1, 2] [7, 9, 15, 17] Aw ?_
    refine Bp 3 13 (by kernel_rfl) ?_ ?_
    ·refine Bb (fuel := 2) 3 [] Aw ?_
     refine An [8, 9, 15, 17] ?_
     exact A1 m1_4
    ·refine Bb (fuel := 2) 13 [] (hold (p := ((((A6 ps) s).length + 1) * 40 ≤ 140737488355328)) (by omega)) ?_
     refine An [7, 9, 18] ?_
     exact A1 m1_6
   ·refine Bb (fuel := 5) 13 [] (hold (p := ((((A6 ps) s).length + 1) * 40 ≤ 140737488355328)) (by omega)) ?_
    refine An [2, 9, 18] ?_
    refine Cs (fuel := 4) 0 [] Aw ?_
    refine Cp (fuel := 2) [] [1, 2] [7, 9, 18] Aw ?_
    refine Cs (fuel := 1) 3 [] Aw ?_
    refine An [8, 9, 18] ?_
    exact A1 m1_2
 refine Bn true 7 (lsD 15 [0, 4, 5, 6, 7, 9, 11, 12]) ⟨[(5, (.ptr 1 0)), (9, (.str s)), (12, (.ptr 1 2)), (14, (.str s)), (17, (.sl 4 0 1 1 false))], [(0, (.row [(.ptr 1 0)] 32)), (1, (.row [(.int .i64 kind), (.int .i64 count), (.map 2)] 80)), (2, (.mm (A6 ps) none 84 4)), (4, (.row [(.int .i64 o.id), (.bool o.own), (.int .i64 o.op), (.str o.evr)] 84))], 5⟩ ?_ (fun m1_21 => ?_)
 ·refine Cp (fuel := 5) [] [1, 2] [7, 9, 12, 14, 17] Aw ?_
  refine Bp 3 8 (by kernel_rfl) ?_ ?_
  ·refine Bb (fuel := 4) 3 [] Aw ?_
   refine An [8, 9, 12, 14, 17] ?_
   exact A1 m1_12
  ·refine Bb (fuel := 4) 8 [] Aw ?_
   refine An [7, 9, 13, 14, 17] ?_
   exact A1 m1_14
 refine Cp (fuel := 12) [] [4, 9, 11] [2, 9, 14, 16] Aw ?_
 refine Fg 0 5 12 (by kernel_rfl) ?_ ?_ ?_
 ·refine Bb (fuel := 11) 0 [] Aw ?_
  refine An [2, 5, 9, 14, 16] ?_
  refine Cp (fuel := 9) [] [1, 2] [2, 7, 9, 14, 16] Aw ?_
  refine Fg 3 5 12 (by kernel_rfl) ?_ ?_ ?_
  ·refine Bb (fuel := 8) 3 [] Aw ?_
   refine An [2, 8, 9, 14, 16] ?_
   refine Bp 5 12 (by kernel_rfl) ?_ ?_
   ·refine Bb (fuel := 7) 5 [] Aw ?_
    refine An [8, 9, 10, 14, 16] ?_
    refine Cp (fuel := 5) [] [6, 7] [8, 9, 12, 14, 16] Aw ?_
    refine Bp 8 12 (by kernel_rfl) ?_ ?_
    ·refine Bb (fuel := 4) 8 [] Aw ?_
     refine An [8, 9, 13, 14, 16] ?_
     exact A1 m1_11
    ·refine Bb (fuel := 4) 12 [] Aw ?_
     refine An [8, 9, 12, 14, 17] ?_
     exact A1 m1_12
   ·refine Bb (fuel := 7) 12 [] Aw ?_
    refine An [2, 8, 9, 14, 17] ?_
    exact A1 m1_18
  ·refine Bb (fuel := 8) 5 [] Aw ?_
   refine An [7, 9, 10, 14, 16] ?_
   refine Cp (fuel := 6) [] [6, 7] [7, 9, 12, 14, 16] Aw ?_
   refine Fg 3 8 12 (by kernel_rfl) ?_ ?_ ?_
   ·refine Bb (fuel := 5) 3 [] Aw ?_
    refine An [8, 9, 12, 14, 16] ?_
    exact A1 m1_15
   ·refine Bb (fuel := 5) 8 [] Aw ?_
    refine An [7, 9, 13, 14, 16] ?_
    exact A1 m1_16
   ·refine Bb (fuel := 5) 12 [] Aw ?_
    refine An [7, 9, 12, 14, 17] ?_
    exact A1 m1_17
  ·refine Bb (fuel := 8) 12 [] Aw ?_
   refine An [2, 7, 9, 14, 17] ?_
   refine Bp 3 5 (by kernel_rfl) ?_ ?_
   ·refine Bb (fuel := 7) 3 [] Aw ?_
    refine An [2, 8, 9, 14, 17] ?_
    exact A1 m1_18
   ·refine Bb (fuel := 7) 5 [] Aw ?_
    refine An [7, 9, 10, 14, 17] ?_
    exact A1 m1_19
 ·refine Bb (fuel := 11) 5 [] Aw ?_
  refine An [2, 9, 10, 14, 16] ?_
  refine Cp (fuel := 9) [] [6, 7] [2, 9, 12, 14, 16] Aw ?_
  refine Fg 0 8 12 (by kernel_rfl) ?_ ?_ ?_
  ·refine Bb (fuel := 8) 0 [] Aw ?_
   refine An [5, 9, 12, 14, 16] ?_
   refine Cp (fuel := 6) [] [1, 2] [7, 9, 12, 14, 16] Aw ?_
   refine Fg 3 8 12 (by kernel_rfl) ?_ ?_ ?_
   ·refine Bb (fuel := 5) 3 [] Aw ?_
    refine An [8, 9, 12, 14, 16] ?_
    exact A1 m1_15
   ·refine Bb (fuel := 5) 8 [] Aw ?_
    refine An [7, 9, 13, 14, 16] ?_
    exact A1 m1_16
   ·refine Bb (fuel := 5) 12 [] Aw ?_
    refine An [7, 9, 12, 14, 17] ?_
    exact A1 m1_17
  ·refine Bb (fuel := 8) 8 [] Aw ?_
   refine An [2, 9, 13, 14, 16] ?_
   refine Fg 0 10 12 (by kernel_rfl) ?_ ?_ ?_
   ·refine Bb (fuel := 7) 0 [] Aw ?_
    refine An [5, 9, 13, 14, 16] ?_
    refine Cp (fuel := 5) [] [1, 2] [7, 9, 13, 14, 16] Aw ?_
    refine Fg 3 10 12 (by kernel_rfl) ?_ ?_ ?_
    ·refine Bb (fuel := 4) 3 [] Aw ?_
     refine An [8, 9, 13, 14, 16] ?_
     exact A1 m1_11
    ·refine Bm (fuel := 4) 10 rfl ?_
     refine Es (b := 2) (s := s) (y := ⟨[(7, (.ptr 1 2)), (9, (.str s)), (13, (.map 2)), (14, (.str s)), (16, (.agg [(.int .i64 o.id), (.bool o.own), (.int .i64 o.op), (.str o.evr)])), (15, (.own 4))], [(0, (.row [(.ptr 1 0)] 32)), (1, (.row [(.int .i64 kind), (.int .i64 count), (.map 2)] 80)), (2, (.mm (A6 ps) (some s) 84 4)), (4, (.grow ((A6 ps) s) 84 4))], 5⟩) (by kernel_rfl) (by kernel_rfl) (by kernel_rfl) Tryz.underlying78 Tryz.underlying9 (fun _ => by kernel_rfl) (by kernel_rfl) ?_
     refine Be ⟨rfl, ?_⟩
     refine An [7, 9, 15, 16] ?_
     exact A1 m1_13
    ·refine Bb (fuel := 4) 12 [] Aw ?_
     refine An [7, 9, 13, 14, 17] ?_
     exact A1 m1_14
   ·refine Bm (fuel := 7) 10 rfl ?_
    refine Es (b := 2) (s := s) (y := ⟨[(2, (.ptr 0 0)), (9, (.str s)), (13, (.map 2)), (14, (.str s)), (16, (.agg [(.int .i64 o.id), (.bool o.own), (.int .i64 o.op), (.str o.evr)])), (15, (.own 4))], [(0, (.row [(.ptr 1 0)] 32)), (1, (.row [(.int .i64 kind), (.int .i64 count), (.map 2)] 80)), (2, (.mm (A6 ps) (some s) 84 4)), (4, (.grow ((A6 ps) s) 84 4))], 5⟩) (by kernel_rfl) (by kernel_rfl) (by kernel_rfl) Tryz.underlying78 Tryz.underlying9 (fun _ => by kernel_rfl) (by kernel_rfl) ?_
    refine Be ⟨rfl, ?_⟩
    refine An [2, 9, 15, 16] ?_
    refine Bp 0 12 (by kernel_rfl) ?_ ?_
    ·refine Bb (fuel := 6) 0 [] Aw ?_
     refine An [5, 9, 15, 16] ?_
     refine Cp (fuel := 4) [] [1, 2] [7, 9, 15, 16] Aw ?_
     refine Bp 3 12 (by kernel_rfl) ?_ ?_
     ·refine Bb (fuel := 3) 3 [] Aw ?_
      refine An [8, 9, 15, 16] ?_
      exact A1 m1_7
     ·refine Bb (fuel := 3) 12 [] Aw ?_
      refine An [7, 9, 15, 17] ?_
      exact A1 m1_9
    ·refine Bb (fuel := 6) 12 [] Aw ?_
     refine An [2, 9, 15, 17] ?_
     refine Bp 0 13 (by kernel_rfl) ?_ ?_
     ·refine Bb (fuel := 5) 0 [] Aw ?_
      refine An [5, 9, 15, 17] ?_
      refine Cp (fuel := 3) [] [1, 2] [7, 9, 15, 17] Aw ?_
      refine Bp 3 13 (by kernel_rfl) ?_ ?_
      ·refine Bb (fuel := 2) 3 [] Aw ?_
       refine An [8, 9, 15, 17] ?_
       exact A1 m1_3
      ·refine Bb (fuel := 2) 13 [] (hold (p := ((((A6 ps) s).length + 1) * 40 ≤ 140737488355328)) (by omega)) ?_
       refine An [7, 9, 18] ?_
       exact A1 m1_5
     ·refine Bb (fuel := 5) 13 [] (hold (p := ((((A6 ps) s).length + 1) * 40 ≤ 140737488355328)) (by omega)) ?_
      refine An [2, 9, 18] ?_
      refine Cs (fuel := 4) 0 [] Aw ?_
      refine Cp (fuel := 2) [] [1, 2] [7, 9, 18] Aw ?_
      refine Cs (fuel := 1) 3 [] Aw ?_
      refine An [8, 9, 18] ?_
      exact A1 m1_1
   ·refine Bb (fuel := 7) 12 [] Aw ?_
    refine An [2, 9, 13, 14, 17] ?_
    exact A1 m1_20
  ·refine Bb (fuel := 8) 12 [] Aw ?_
   refine An [2, 9, 12, 14, 17] ?_
   refine Bp 0 8 (by kernel_rfl) ?_ ?_
   ·refine Bb (fuel := 7) 0 [] Aw ?_
    refine An [5, 9, 12, 14, 17] ?_
    exact A1 m1_21
   ·refine Bb (fuel := 7) 8 [] Aw ?_
    refine An [2, 9, 13, 14, 17] ?_
    exact A1 m1_20
 ·refine Bb (fuel := 11) 12 [] Aw ?_
  refine An [2, 9, 14, 17] ?_
  refine Bp 0 5 (by kernel_rfl) ?_ ?_
  ·refine Bb (fuel := 10) 0 [] Aw ?_
   refine An [2, 5, 9, 14, 17] ?_
   refine Cp (fuel := 8) [] [1, 2] [2, 7, 9, 14, 17] Aw ?_
   refine Bp 3 5 (by kernel_rfl) ?_ ?_
   ·refine Bb (fuel := 7) 3 [] Aw ?_
    refine An [2, 8, 9, 14, 17] ?_
    exact A1 m1_18
   ·refine Bb (fuel := 7) 5 [] Aw ?_
    refine An [7, 9, 10, 14, 17] ?_
    exact A1 m1_19
  ·refine Bb (fuel := 10) 5 [] Aw ?_
   refine An [2, 9, 10, 14, 17] ?_
   refine Cp (fuel := 8) [] [6, 7] [2, 9, 12, 14, 17] Aw ?_
   refine Bp 0 8 (by kernel_rfl) ?_ ?_
   ·refine Bb (fuel := 7) 0 [] Aw ?_
    refine An [5, 9, 12, 14, 17] ?_
    exact A1 m1_21
   ·refine Bb (fuel := 7) 8 [] Aw ?_
    refine An [2, 9, 13, 14, 17] ?_
    exact A1 m1_20
theorem Q4f (st : PoolT) (hal : st.all.length ≤ 200) (hs : ∀ i, i < st.all.length → (nth st.all i).1.size ≤ 4194304) :
  FnV Tryz.prog 10 [(.fp (D7 st))] (.fp (Cb st)) := by
 refine Ba [.tmp 2] Tryz.func10 rfl Tryz.ntmps10 rfl rfl (fun B F hF => ?_)
 refine Aa [] [0] ?_
 refine Ab ?_
 refine Aa [] [0, 14] ?_
 refine Db (by kernel_rfl) ?_
 refine Ai ?_
 refine Ae [] [0, 3] [] (hk 1 Yw (X29 st) <| hk 3 Yv (X25 st) <| hk0) v0 c0 ?_
 refine Ab ?_
 refine Aa [] [0, 3, 25, 26] ?_
 refine A3 ?_
 refine Pm 0 84 4 (y := ⟨[(0, (.fp (D7 st))), (3, (.ptr 2 0)), (25, (.int .i64 ((st.all.length : Int)))), (26, (.int .i64 0))], [(0, (.mm (fun _ => []) none 84 4)), (1, (.row [(.int .i64 st.kind), (.int .i64 ((st.all.length : Int))), (.map 0)] 80)), (2, (.row [(.ptr 1 0)] 32))], 3⟩) (by kernel_rfl) ?_
 refine Bs (fun g y => ∃ (i : Nat), i ≤ st.all.length ∧ y = ⟨[(0, (.fp (D7 st))), (3, (.ptr 2 0)), (25, (.int .i64 ((st.all.length : Int)))), (26, (.int .i64 ((i : Int))))], [(0, (.mm (A6 (Bc st.all i)) none 84 4)), (1, (.row [(.int .i64 st.kind), (.int .i64 ((st.all.length : Int))), (.map 0)] 80)), (2, (.row [(.ptr 1 0)] 32))], 3⟩ ∧ g = st.all.length - i) [0, 3, 25, 26] 3 _ (by omega) ⟨0, (by omega), (by kernel_rfl), rfl⟩ ?_
 rintro g1 y1 ⟨i, f1_1, rfl, rfl⟩
 refine Aa [] [0, 3, 25, 26, 27] ?_
 refine Ab ?_
 refine A8 (p := (i : Int) < (st.all.length : Int)) (by kernel_rfl) (fun c1 => ?_) (fun c1 => ?_)
 ·have hpl := Qp (l := st.all) hs i (by omega)
  have hsz := (nth st.all i).1.sizes
  have hsi := hs i (by omega)
  have hpv : (nth st.all i).1.provides.length ≤ 4194304 := by have := Ds (nth st.all i).1.provides; unfold PkgT.depSize at hsz; omega
  have hfl : (nth st.all i).1.files.length ≤ 4194304 := by have := Fb (nth st.all i).1.files; omega
  refine Ai ?_
  refine Ab ?_
  refine A3 ?_
  refine Aa [] [0, 3, 4, 25, 26] ?_
  refine Ae [] [0, 3, 4, 5, 25, 26] [(9, 5)] (hk 2 Yu (X20 st i (by omega) (hs i (by omega))) <| hk0) v0 c0 ?_
  refine Aa [] [0, 3, 4, 5, 8, 25, 26] ?_
  refine Ab ?_
  refine Ar ?_
  refine Bj 7 0 [] [0, 3, 4, 5, 8, 25, 26, 37, 39, 43] [] hk0 v0 c0 ?_
  refine J9 [2, 1, 0] (f := 45) (cap := [(.ptr 2 0)]) (al := [(.str (((nth st.all i).1).name)), (.agg [(.int .i64 ((i : Int))), (.bool true), (.int .i64 2), (.str (((nth st.all i).1).evr))])]) (al' := [(.str (((nth st.all i).1).name)), (.agg [(.int .i64 ((i : Int))), (.bool true), (.int .i64 2), (.str (((nth st.all i).1).evr))]), (.ptr 0 0)]) (r := (.tup [])) (r' := (.tup [])) (s' := [(0, (.fp (D7 st))), (3, (.ptr 2 0)), (4, (.int .i64 ((i : Int)))), (5, (.fp (Ak ((nth st.all i).1)))), (8, (.fn 45 [] [(.ptr 2 0)])), (25, (.int .i64 ((st.all.length : Int)))), (26, (.int .i64 ((i : Int)))), (37, (.fn 45 [] [(.ptr 2 0)])), (39, (.str (((nth st.all i).1).name))), (43, (.agg [(.int .i64 ((i : Int))), (.bool true), (.int .i64 2), (.str (((nth st.all i).1).evr))])), (44, (.tup []))]) (H := [(0, (.row [(.ptr 1 0)] 32)), (1, (.row [(.int .i64 st.kind), (.int .i64 ((st.all.length : Int))), (.map 2)] 80)), (2, (.mm (A6 (Bc st.all i)) none 84 4))]) (H' := [(0, (.row [(.ptr 1 0)] 32)), (1, (.row [(.int .i64 st.kind), (.int .i64 ((st.all.length : Int))), (.map 2)] 80)), (2, (.mm (A6 (Bc st.all i ++ [((nth st.all i).1.name, (⟨(i : Int), true, 2, (nth st.all i).1.evr⟩ : OfferT))])) none 84 4))]) (h2 := [(0, (.mm (A6 (Bc st.all i ++ [((nth st.all i).1.name, (⟨(i : Int), true, 2, (nth st.all i).1.evr⟩ : OfferT))])) none 84 4)), (1, (.row [(.int .i64 st.kind), (.int .i64 ((st.all.length : Int))), (.map 0)] 80)), (2, (.row [(.ptr 1 0)] 32))]) (by kernel_rfl) (by kernel_rfl) (by exact Lc) (by kernel_rfl) (by kernel_rfl) (by kernel_rfl) (by kernel_rfl) (by kernel_rfl) (Kq st.kind (st.all.length : Int) (Bc st.all i) ((nth st.all i).1.name) ⟨(i : Int), true, 2, (nth st.all i).1.evr⟩ (Nat.le_trans (Ji _ _) (by first | (simp only [List.length_append]; have := Jd (i := i) (p := (nth st.all i).1) (j := 0); have := Jc (i := i) (p := (nth st.all i).1) (j := 0); omega) | omega))) (by kernel_rfl) (by kernel_rfl) (by kernel_rfl) ?_
  refine Be ?_
  refine Ab ?_
  refine Aa [] [0, 3, 4, 5, 8, 25, 26, 46, 47, 48] ?_
  refine A3 ?_
  refine Bs (fun g y => ∃ (j : Nat), j ≤ (nth st.all i).1.provides.length ∧ y = ⟨[(0, (.fp (D7 st))), (3, (.ptr 2 0)), (4, (.int .i64 ((i : Int)))), (5, (.fp (Ak ((nth st.all i).1)))), (8, (.fn 45 [] [(.ptr 2 0)])), (25, (.int .i64 ((st.all.length : Int)))), (26, (.int .i64 ((i : Int)))), (46, (Ah 5 Az (((nth st.all i).1).provides))), (47, (.int .i64 (((((nth st.all i).1).provides).length : Int)))), (48, (.int .i64 ((j : Int))))], [(0, (.mm (A6 (Bc st.all i ++ Cz i (nth st.all i).1 j)) none 84 4)), (1, (.row [(.int .i64 st.kind), (.int .i64 ((st.all.length : Int))), (.map 0)] 80)), (2, (.row [(.ptr 1 0)] 32))], 4⟩ ∧ g = (nth st.all i).1.provides.length - j) [0, 3, 4, 5, 8, 25, 26, 46, 47, 48] 4 _ (by omega) ⟨0, (by omega), (by kernel_rfl), rfl⟩ ?_
  rintro g2 y2 ⟨j, f2_1, rfl, rfl⟩
  refine Aa [] [0, 3, 4, 5, 8, 25, 26, 46, 47, 48, 49] ?_
  refine Ab ?_
  refine A8 (p := (j : Int) < ((((nth st.all i).1).provides).length : Int)) (by kernel_rfl) (fun c2 => ?_) (fun c2 => ?_)
  ·refine Ai ?_
   refine Ab ?_
   refine A3 ?_
   refine Ae [] [0, 3, 4, 5, 8, 10, 25, 26, 46, 47, 48] [] hk0 v0 (cc 0 (p := (0 ≤ (j : Int) ∧ j < (((nth st.all i).1).provides).length)) (by omega) <| c0) ?_
   refine Ar ?_
   refine Bj 9 0 [] [0, 3, 4, 5, 8, 25, 26, 46, 47, 48, 52, 54, 60] [(0, 10)] hk0 v0 c0 ?_
   refine J9 [2, 1, 0] (f := 45) (cap := [(.ptr 2 0)]) (al := [(.str ((nth (((nth st.all i).1).provides) j).name)), (.agg [(.int .i64 ((i : Int))), (.bool false), (.int .i64 ((nth (((nth st.all i).1).provides) j).op)), (.str ((nth (((nth st.all i).1).provides) j).evr))])]) (al' := [(.str ((nth (((nth st.all i).1).provides) j).name)), (.agg [(.int .i64 ((i : Int))), (.bool false), (.int .i64 ((nth (((nth st.all i).1).provides) j).op)), (.str ((nth (((nth st.all i).1).provides) j).evr))]), (.ptr 0 0)]) (r := (.tup [])) (r' := (.tup [])) (s' := [(0, (.fp (D7 st))), (3, (.ptr 2 0)), (4, (.int .i64 ((i : Int)))), (5, (.fp (Ak ((nth st.all i).1)))), (8, (.fn 45 [] [(.ptr 2 0)])), (25, (.int .i64 ((st.all.length : Int)))), (26, (.int .i64 ((i : Int)))), (46, (Ah 5 Az (((nth st.all i).1).provides))), (47, (.int .i64 (((((nth st.all i).1).provides).length : Int)))), (48, (.int .i64 ((j : Int)))), (52, (.fn 45 [] [(.ptr 2 0)])), (54, (.str ((nth (((nth st.all i).1).provides) j).name))), (60, (.agg [(.int .i64 ((i : Int))), (.bool false), (.int .i64 ((nth (((nth st.all i).1).provides) j).op)), (.str ((nth (((nth st.all i).1).provides) j).evr))])), (61, (.tup []))]) (H := [(0, (.row [(.ptr 1 0)] 32)), (1, (.row [(.int .i64 st.kind), (.int .i64 ((st.all.length : Int))), (.map 2)] 80)), (2, (.mm (A6 (Bc st.all i ++ Cz i (nth st.all i).1 j)) none 84 4))]) (H' := [(0, (.row [(.ptr 1 0)] 32)), (1, (.row [(.int .i64 st.kind), (.int .i64 ((st.all.length : Int))), (.map 2)] 80)), (2, (.mm (A6 (Bc st.all i ++ Cz i (nth st.all i).1 j ++ [((nth (nth st.all i).1.provides j).name, (⟨(i : Int), false, (nth (nth st.all i).1.provides j).op, (nth (nth st.all i).1.provides j).evr⟩ : OfferT))])) none 84 4))]) (h2 := [(0, (.mm (A6 (Bc st.all i ++ Cz i (nth st.all i).1 j ++ [((nth (nth st.all i).1.provides j).name, (⟨(i : Int), false, (nth (nth st.all i).1.provides j).op, (nth (nth st.all i).1.provides j).evr⟩ : OfferT))])) none 84 4)), (1, (.row [(.int .i64 st.kind), (.int .i64 ((st.all.length : Int))), (.map 0)] 80)), (2, (.row [(.ptr 1 0)] 32))]) (by kernel_rfl) (by kernel_rfl) (by exact Lc) (by kernel_rfl) (by kernel_rfl) (by kernel_rfl) (by kernel_rfl) (by kernel_rfl) (Kq st.kind (st.all.length : Int) (Bc st.all i ++ Cz i (nth st.all i).1 j) ((nth (nth st.all i).1.provides j).name) ⟨(i : Int), false, (nth (nth st.all i).1.provides j).op, (nth (nth st.all i).1.provides j).evr⟩ (Nat.le_trans (Ji _ _) (by first | (simp only [List.length_append]; have := Jd (i := i) (p := (nth st.all i).1) (j := j); have := Jc (i := i) (p := (nth st.all i).1) (j := j); omega) | omega))) (by kernel_rfl) (by kernel_rfl) (by kernel_rfl) ?_
   refine Be ?_
   refine Ar ?_
   refine A2 0 [] [0, 3, 4, 5, 8, 25, 26, 46, 47, 48] [] hk0 v0 (cc 0 (p := (-9223372036854775808 ≤ (j : Int) + 1 ∧ (j : Int) + 1 ≤ 9223372036854775807)) (by omega) <| c0) ?_
   refine ⟨by kernel_rfl, _, ?_, j + 1, ?_, (Eq.trans (b := (⟨[(0, (.fp (D7 st))), (3, (.ptr 2 0)), (4, (.int .i64 ((i : Int)))), (5, (.fp (Ak ((nth st.all i).1)))), (8, (.fn 45 [] [(.ptr 2 0)])), (25, (.int .i64 ((st.all.length : Int)))), (26, (.int .i64 ((i : Int)))), (46, (Ah 5 Az (((nth st.all i).1).provides))), (47, (.int .i64 (((((nth st.all i).1).provides).length : Int)))), (48, (.int .i64 ((j : Int) + 1)))], [(0, (.mm (A6 (Bc st.all i ++ Cz i (nth st.all i).1 j ++ [((nth (nth st.all i).1.provides j).name, (⟨(i : Int), false, (nth (nth st.all i).1.provides j).op, (nth (nth st.all i).1.provides j).evr⟩ : OfferT))])) none 84 4)), (1, (.row [(.int .i64 st.kind), (.int .i64 ((st.all.length : Int))), (.map 0)] 80)), (2, (.row [(.ptr 1 0)] 32))], 4⟩ : St)) (by kernel_rfl) (by rw [Vb (by omega), ← List.append_assoc] <;> kernel_rfl)), rfl⟩
   ·omega
   ·omega
  ·refine Bl ?_
   refine Aa [] [0, 3, 4, 8, 25, 26, 64, 65, 66] ?_
   refine A3 ?_
   refine Bs (fun g y => ∃ (j : Nat), j ≤ (nth st.all i).1.files.length ∧ y = ⟨[(0, (.fp (D7 st))), (3, (.ptr 2 0)), (4, (.int .i64 ((i : Int)))), (8, (.fn 45 [] [(.ptr 2 0)])), (25, (.int .i64 ((st.all.length : Int)))), (26, (.int .i64 ((i : Int)))), (64, (Ch (((nth st.all i).1).files))), (65, (.int .i64 (((((nth st.all i).1).files).length : Int)))), (66, (.int .i64 ((j : Int))))], [(0, (.mm (A6 (Bc st.all i ++ Cl i (nth st.all i).1 j)) none 84 4)), (1, (.row [(.int .i64 st.kind), (.int .i64 ((st.all.length : Int))), (.map 0)] 80)), (2, (.row [(.ptr 1 0)] 32))], 4⟩ ∧ g = (nth st.all i).1.files.length - j) [0, 3, 4, 8, 25, 26, 64, 65, 66] 4 _ (by omega) ⟨0, (by omega), (Eq.trans (b := (⟨[(0, (.fp (D7 st))), (3, (.ptr 2 0)), (4, (.int .i64 ((i : Int)))), (8, (.fn 45 [] [(.ptr 2 0)])), (25, (.int .i64 ((st.all.length : Int)))), (26, (.int .i64 ((i : Int)))), (64, (Ch (((nth st.all i).1).files))), (65, (.int .i64 (((((nth st.all i).1).files).length : Int)))), (66, (.int .i64 0))], [(0, (.mm (A6 (Bc st.all i ++ Cz i (nth st.all i).1 j)) none 84 4)), (1, (.row [(.int .i64 st.kind), (.int .i64 ((st.all.length : Int))), (.map 0)] 80)), (2, (.row [(.ptr 1 0)] 32))], 4⟩ : St)) (by kernel_rfl) (by rw [show Cl i (nth st.all i).1 0 = Cz i (nth st.all i).1 (nth st.all i).1.provides.length from by simp [Cl], show (nth st.all i).1.provides.length = j from by omega] <;> kernel_rfl)), rfl⟩ ?_
   rintro g3 y3 ⟨j, f3_1, rfl, rfl⟩
   refine Aa [] [0, 3, 4, 8, 25, 26, 64, 65, 66, 67] ?_
   refine Ab ?_
   refine A8 (p := (j : Int) < ((((nth st.all i).1).files).length : Int)) (by kernel_rfl) (fun c3 => ?_) (fun c3 => ?_)
   ·refine Ai ?_
    refine Ab ?_
    refine A3 ?_
    refine Ae [] [0, 3, 4, 8, 12, 25, 26, 64, 65, 66] [] hk0 v0 (cc 0 (p := (0 ≤ (j : Int) ∧ j < (((nth st.all i).1).files).length)) (by omega) <| c0) ?_
    refine Ar ?_
    refine Bj 4 0 [] [0, 3, 4, 8, 25, 26, 64, 65, 66, 70, 71, 73] [] hk0 v0 c0 ?_
    refine J9 [2, 1, 0] (f := 45) (cap := [(.ptr 2 0)]) (al := [(.str (nth (((nth st.all i).1).files) j)), (.agg [(.int .i64 ((i : Int))), (.bool false), (.int .i64 0), (.str [])])]) (al' := [(.str (nth (((nth st.all i).1).files) j)), (.agg [(.int .i64 ((i : Int))), (.bool false), (.int .i64 0), (.str [])]), (.ptr 0 0)]) (r := (.tup [])) (r' := (.tup [])) (s' := [(0, (.fp (D7 st))), (3, (.ptr 2 0)), (4, (.int .i64 ((i : Int)))), (8, (.fn 45 [] [(.ptr 2 0)])), (25, (.int .i64 ((st.all.length : Int)))), (26, (.int .i64 ((i : Int)))), (64, (Ch (((nth st.all i).1).files))), (65, (.int .i64 (((((nth st.all i).1).files).length : Int)))), (66, (.int .i64 ((j : Int)))), (70, (.fn 45 [] [(.ptr 2 0)])), (71, (.str (nth (((nth st.all i).1).files) j))), (73, (.agg [(.int .i64 ((i : Int))), (.bool false), (.int .i64 0), (.str [])])), (74, (.tup []))]) (H := [(0, (.row [(.ptr 1 0)] 32)), (1, (.row [(.int .i64 st.kind), (.int .i64 ((st.all.length : Int))), (.map 2)] 80)), (2, (.mm (A6 (Bc st.all i ++ Cl i (nth st.all i).1 j)) none 84 4))]) (H' := [(0, (.row [(.ptr 1 0)] 32)), (1, (.row [(.int .i64 st.kind), (.int .i64 ((st.all.length : Int))), (.map 2)] 80)), (2, (.mm (A6 (Bc st.all i ++ Cl i (nth st.all i).1 j ++ [(nth (nth st.all i).1.files j, (⟨(i : Int), false, 0, []⟩ : OfferT))])) none 84 4))]) (h2 := [(0, (.mm (A6 (Bc st.all i ++ Cl i (nth st.all i).1 j ++ [(nth (nth st.all i).1.files j, (⟨(i : Int), false, 0, []⟩ : OfferT))])) none 84 4)), (1, (.row [(.int .i64 st.kind), (.int .i64 ((st.all.length : Int))), (.map 0)] 80)), (2, (.row [(.ptr 1 0)] 32))]) (by kernel_rfl) (by kernel_rfl) (by exact Lc) (by kernel_rfl) (by kernel_rfl) (by kernel_rfl) (by kernel_rfl) (by kernel_rfl) (Kq st.kind (st.all.length : Int) (Bc st.all i ++ Cl i (nth st.all i).1 j) (nth (nth st.all i).1.files j) ⟨(i : Int), false, 0, []⟩ (Nat.le_trans (Ji _ _) (by first | (simp only [List.length_append]; have := Jd (i := i) (p := (nth st.all i).1) (j := j); have := Jc (i := i) (p := (nth st.all i).1) (j := j); omega) | omega))) (by kernel_rfl) (by kernel_rfl) (by kernel_rfl) ?_
    refine Be ?_
    refine Ar ?_
    refine A2 0 [] [0, 3, 4, 8, 25, 26, 64, 65, 66] [] hk0 v0 (cc 0 (p := (-9223372036854775808 ≤ (j : Int) + 1 ∧ (j : Int) + 1 ≤ 9223372036854775807)) (by omega) <| c0) ?_
    refine ⟨by kernel_rfl, _, ?_, j + 1, ?_, (Eq.trans (b := (⟨[(0, (.fp (D7 st))), (3, (.ptr 2 0)), (4, (.int .i64 ((i : Int)))), (8, (.fn 45 [] [(.ptr 2 0)])), (25, (.int .i64 ((st.all.length : Int)))), (26, (.int .i64 ((i : Int)))), (64, (Ch (((nth st.all i).1).files))), (65, (.int .i64 (((((nth st.all i).1).files).length : Int)))), (66, (.int .i64 ((j : Int) + 1)))], [(0, (.mm (A6 (Bc st.all i ++ Cl i (nth st.all i).1 j ++ [(nth (nth st.all i).1.files j, (⟨(i : Int), false, 0, []⟩ : OfferT))])) none 84 4)), (1, (.row [(.int .i64 st.kind), (.int .i64 ((st.all.length : Int))), (.map 0)] 80)), (2, (.row [(.ptr 1 0)] 32))], 4⟩ : St)) (by kernel_rfl) (by rw [Va (by omega), ← List.append_assoc] <;> kernel_rfl)), rfl⟩
    ·omega
    ·omega
   ·refine Bl ?_
    refine Ar ?_
    refine A2 0 [] [0, 3, 25, 26] [] hk0 v0 (cc 0 (p := (-9223372036854775808 ≤ (i : Int) + 1 ∧ (i : Int) + 1 ≤ 9223372036854775807)) (by omega) <| c0) ?_
    refine ⟨by kernel_rfl, _, ?_, i + 1, ?_, (Eq.trans (b := (⟨[(0, (.fp (D7 st))), (3, (.ptr 2 0)), (25, (.int .i64 ((st.all.length : Int)))), (26, (.int .i64 ((i : Int) + 1)))], [(0, (.mm (A6 (Bc st.all i ++ Cl i (nth st.all i).1 j)) none 84 4)), (1, (.row [(.int .i64 st.kind), (.int .i64 ((st.all.length : Int))), (.map 0)] 80)), (2, (.row [(.ptr 1 0)] 32))], 3⟩ : St)) (by kernel_rfl) (by rw [Nv, show D6 i (nth st.all i).1 = Cl i (nth st.all i).1 j from by unfold D6; rw [show (nth st.all i).1.files.length = j from by omega]] <;> kernel_rfl)), rfl⟩
    ·omega
    ·omega
 ·refine Bl ?_
  refine Ab ?_
  refine Ar ?_
  refine Gm 1 2 (y := ⟨[(0, (.fp (D7 st))), (3, (.ptr 2 0)), (25, (.int .i64 ((st.all.length : Int)))), (26, (.int .i64 ((i : Int)))), (27, (.bool (decide ((i : Int) < (st.all.length : Int)))))], [(1, (.row [(.int .i64 st.kind), (.int .i64 ((st.all.length : Int))), (.smap (.slice none 0 0) (fun kq => .row 4 ((A6 (Bc st.all i)) kq).length (fun ix => ((A6 (Bc st.all i)) kq).getD ix Bh)))] 80)), (2, (.row [(.ptr 1 0)] 32))], 3⟩) (by kernel_rfl) ?_
  refine D4 [] [2] ?_
  refine Ag ?_
  refine RK wR [(.fp (.agg [(.int .i64 st.kind), (.int .i64 ((st.all.length : Int))), (.smap (.slice none 0 0) (fun kq => .row 4 ((A6 (Bc st.all i)) kq).length (fun ix => ((A6 (Bc st.all i)) kq).getD ix Bh)))]))] ?_
  rw [show i = st.all.length from by omega]
  exact Same.of_eq rfl
end Sv
end Go.Proofs.YtlfjokcbkopfeaaGreatDoor
end
section
namespace Go.Proofs.YtlfjokcbkopfeaaGreatDoor
open Go Go.RowKit
set_option linter.unusedSimpArgs false
set_option linter.unusedVariables false
namespace Sv
theorem Xg {φ : Phi} : ∀ {l : List Int} {vs : List Value}, VRl φ (l.map (AV.int .i64)) vs → vs = l.map (Value.int .i64)
  | [], vs, h => h.nil_inv
  | x :: l, vs, h => by
    obtain ⟨v, vs', rfl, h1, h2⟩ := h.cons_inv
    simp only [VR] at h1
    rw [Xg h2, h1]; rfl
theorem Tq {φ : Phi} : ∀ l : List Int, VRl φ (l.map (AV.int .i64)) (l.map (Value.int .i64))
  | [] => .nil
  | x :: l => .cons (by simp only [VR]) (Tq l)
theorem Ya (l : List Int) : (l.map (Value.int .i64)).flatMap (fun u => u.cells.toList) = l.map (Value.int .i64) := by
  induction l with
  | nil => rfl
  | cons x l ih => rw [List.map_cons, List.flatMap_cons, ih]; first | done | rfl
theorem X0e (l : List Int) : ∀ u ∈ l.map (Value.int .i64), u.cells.size = 1 ∧ ∀ c ∈ u.cells.toList, c.oneCell' = true := by
  intro u hu
  obtain ⟨x, _, rfl⟩ := List.mem_map.1 hu
  exact ⟨rfl, fun c hc => by simp [Value.cells] at hc; subst hc; rfl⟩
theorem Rel.rebaseI {B : Bas} {φ : Phi} {h : AH} {w : World} (r : Rel B φ h w) : Rel (F3 φ h w) φ h w :=
  ⟨⟨rfl, rfl, rfl, Nat.le_refl _, fun _ _ => rfl⟩, r.fro, fun b o e => by have := r.obj b o e; cases o <;> exact this, r.sep, fun b o k e i => ⟨fun q => q.2 b o e i, (r.gf b o k e i).2⟩⟩
theorem Zy (zs : List Int) : (Lib.compact zs).length ≤ zs.length := by
  have : ∀ m, (Lib.compactUpTo zs.toArray m).length ≤ m := by
    intro m
    induction m with
    | zero => simp [Lib.compactUpTo]
    | succ m ih =>
      rw [Lib.compactUpTo_succ, List.length_append]
      split <;> simp <;> omega
  exact this _
theorem Q97 (l : List Int) (hl : l.length ≤ 4611686018427) :
    Dj Tryz.prog 118 [.own 0] [(0, .grow (l.map (AV.int .i64)) 3 1)] 1 (.own 0) [(0, .grow ((Lib.compact l).map (AV.int .i64)) 3 1)] := by
  intro B0 φ w vs r hv
  obtain ⟨v, rfl, hv1⟩ := hv.single_inv
  simp only [VR] at hv1
  obtain ⟨v0, us, q1, q2, q3, q4⟩ := r.obj 0 _ rfl
  rw [hv1.1] at q1; cases q1
  have hu := Xg q3
  subst hu
  rw [Ya, List.length_map] at q2
  have hr := r.rebaseI
  rcases q2.2 with ⟨rfl, hn⟩ | ⟨g, cap, cur, rfl, hg1, hg2, hg3, hg4, hg5, hg6⟩
  · have hl0 : l = [] := List.length_eq_zero_iff.1 hn
    subst hl0
    refine (Tryz.slices_Compact_int_empty none 0 w).mono ?_
    rintro e w' ⟨he, rfl⟩
    exact ⟨_, he, φ, hr, by simp only [VR]; exact hv1, fun _ _ _ e => e, fun _ _ e => e, fun _ _ e => .inl e⟩
  · have hh : Go.Sort.Holds (Value.int .i64) w g 0 l.toArray := holds_of_blockI hg2 (by simpa using hg6)
    refine (Tryz.slices_Compact_int g 0 cap l w hh (by omega) hg3).mono ?_
    rintro e w' ⟨he, n, rfl⟩
    have hgr := grownBy_sortedI (w := w) (g := g) (n := n) (os := #[]) (Lib.compact l ++ List.replicate (l.length - (Lib.compact l).length) 0).toArray
    rw [Go.Sort.grow_empty] at hgr
    have hle := Zy l
    have hts : (Lib.compact l ++ List.replicate (l.length - (Lib.compact l).length) (0 : Int)).length = l.length := by simp; omega
    have ho := ownsRow_sortedI (n := n) (os := #[]) (base := 0) (ts := Lib.compact l ++ List.replicate (l.length - (Lib.compact l).length) 0) (ss := l) hts hg1 hg2 hg3 hg4 (by simpa using hg5)
    rw [Go.Sort.grow_empty] at ho
    refine ⟨_, he, ⟨φ.m, fun i => if i = 0 then some (.slice (some ⟨g, 0, none⟩) (Lib.compact l).length cap) else φ.s i, φ.f⟩, ?_, by simp only [VR]; exact ⟨rfl, _, _, _, rfl⟩, fun _ _ _ e => e, fun _ _ e => e, fun _ _ e => .inl e⟩
    have ht : Turn φ ⟨φ.m, fun i => if i = 0 then some (.slice (some ⟨g, 0, none⟩) (Lib.compact l).length cap) else φ.s i, φ.f⟩ 0 := ⟨fun _ => rfl, fun c hc => if_neg hc, fun _ _ e => e⟩
    refine Rel.grown (v' := .slice (some ⟨g, 0, none⟩) (Lib.compact l).length cap) (es' := (Lib.compact l).map (AV.int .i64)) hr (b := 0) rfl hv1.1 ht rfl rfl hgr (.inl rfl) (fun k hk => by cases hk; exact Nat.lt_of_lt_of_le (E0 hg2) hgr.size) ⟨_, (Lib.compact l).map (Value.int .i64), rfl, ?_, Tq _, X0e _⟩
    rw [Ya, List.length_map]
    refine ⟨by simp, .inr ⟨g, cap, Go.Sort.putCells (Value.int .i64) 0 (Lib.compact l ++ List.replicate (l.length - (Lib.compact l).length) 0).toArray cur, rfl, hg1, ?_, by omega, hg4, by simp [Go.Sort.putCells, hg5], ?_⟩⟩
    · have := heap_sortedI (w := w) (g := g) (n := n) (os := #[]) (Lib.compact l ++ List.replicate (l.length - (Lib.compact l).length) 0).toArray hg2
      rw [Go.Sort.grow_empty] at this; exact this
    · have := take_putCellsI cur (Lib.compact l ++ List.replicate (l.length - (Lib.compact l).length) 0) (by rw [hts, hg5]; omega)
      have := congrArg (List.take (Lib.compact l).length) this
      rw [List.take_take, Nat.min_eq_left (by rw [hts]; exact hle), List.map_append, List.take_append_of_le_length (by simp), List.take_of_length_le (l := (Lib.compact l).map (Value.int .i64)) (by simp)] at this
      rw [Nat.mul_one]; exact this
end Sv
end Go.Proofs.YtlfjokcbkopfeaaGreatDoor
end
section
namespace Go.Proofs.YtlfjokcbkopfeaaGreatDoor
open Go Go.RowKit
namespace Sv
attribute [local irreducible] SW SO Bg
set_option maxHeartbeats 1000000
set_option maxRecDepth 100000
theorem Q9d : As Tryz.prog 117 := Ax Tryz.func117 (by kernel_rfl) rfl
theorem Ys : As Tryz.prog 57 := Ax Tryz.func57 (by kernel_rfl) rfl
theorem Q9b : As Tryz.prog 119 := Ax Tryz.func119 (by kernel_rfl) rfl
theorem Yr : As Tryz.prog 59 := Ax Tryz.func59 (by kernel_rfl) rfl
theorem Q9c : As Tryz.prog 118 := Ax Tryz.func118 (by kernel_rfl) rfl
theorem Q8m : As Tryz.prog 159 := Ax Tryz.func159 (by kernel_rfl) rfl
theorem Q85 : As Tryz.prog 128 := Ax Tryz.func128 (by kernel_rfl) rfl
theorem Q7w : As Tryz.prog 78 := Ax Tryz.func78 (by kernel_rfl) rfl
theorem Q41 (ps : List (List UInt8 × OfferT)) (s : List UInt8) : Imp (.row 4 (A6 ps s).length (fun i => (A6 ps s).getD i Bh)) (Ah 4 Hy (B8 ps s)) := Imp.list (f := Hy) (List.length_map _)
def G2 (m : Int → Int → List UInt8 → Int → List UInt8 → Bool × Int) : Prop := ∀ k op a o b, a.length ≤ 4194304 → b.length ≤ 4194304 → FnV Tryz.prog 159 [.int .i64 k, .int .i64 op, .str a, .int .i64 o, .str b] (.tup [.bool (m k op a o b).1, .int .i64 (m k op a o b).2])
def H1 (m : Int → Int → List UInt8 → Int → List UInt8 → Bool × Int) (k : Int) (d : DepT) (o : OfferT) : Bool := if d.op = 0 ∨ o.op = 0 then decide (d.op = 0) else (m k d.op d.evr o.op o.evr).1
def IdxOk (st : PoolT) : Prop := st.all.length ≤ 200 ∧ ∀ i, i < st.all.length → (nth st.all i).1.size ≤ 4194304
theorem IdxOk.len {st : PoolT} (h : IdxOk st) (s : List UInt8) : (B8 (Bc st.all st.all.length) s).length ≤ 2147483648 := by
 have h1 := Qp h.2 st.all.length (Nat.le_refl _)
 have h2 := Ji (Bc st.all st.all.length) s
 have h3 : (A6 (Bc st.all st.all.length) s).length = (B8 (Bc st.all st.all.length) s).length := List.length_map _
 have := h.1
 omega
theorem Gd {α : Type} [Inhabited α] {l : List α} {j : Nat} (h : j < l.length) : nth l j = l[j] := by simp [nth, h]
theorem Q4d {st : PoolT} (h : IdxOk st) {q : List UInt8 × OfferT} (hq : q ∈ Bc st.all st.all.length) : q.2.evr.length ≤ 4194304 := by
 unfold Bc at hq
 obtain ⟨i, hi, hq⟩ := List.mem_flatMap.1 hq
 have hi : i < st.all.length := by simpa using hi
 have h1 := h.2 i hi
 have h2 := (nth st.all i).1.sizes
 unfold D6 Cl Cz at hq
 simp only [List.take_length, List.cons_append, List.mem_cons, List.mem_append, List.mem_map] at hq
 rcases hq with rfl | ⟨d, hd, rfl⟩ | ⟨x, hx, rfl⟩
 ·show (nth st.all i).1.evr.length ≤ _; omega
 ·obtain ⟨j, hj, rfl⟩ := List.getElem_of_mem hd
  have h3 := Mu (l := (nth st.all i).1.provides) (i := j) hj
  have h4 := Ee (nth (nth st.all i).1.provides j)
  have h5 : argsSize (nth st.all i).1.provides ≤ (nth st.all i).1.depSize := by unfold PkgT.depSize; omega
  have h6 : nth (nth st.all i).1.provides j = (nth st.all i).1.provides[j] := Gd hj
  rw [h6] at h3 h4
  show (nth st.all i).1.provides[j].evr.length ≤ _
  omega
 ·exact Nat.zero_le _
theorem IdxOk.evr {st : PoolT} (h : IdxOk st) {s : List UInt8} {i : Nat} (hi : i < (B8 (Bc st.all st.all.length) s).length) : (nth (B8 (Bc st.all st.all.length) s) i).evr.length ≤ 4194304 := by
 have hm : nth (B8 (Bc st.all st.all.length) s) i ∈ B8 (Bc st.all st.all.length) s := by
  have : nth (B8 (Bc st.all st.all.length) s) i = (B8 (Bc st.all st.all.length) s)[i] := by simp [nth, hi]
  rw [this]; exact List.getElem_mem hi
 obtain ⟨q, hq, e⟩ := List.mem_map.1 hm
 rw [← e]; exact Q4d h (List.mem_filter.1 hq).1
def Fs (m : Int → Int → List UInt8 → Int → List UInt8 → Bool × Int) (st : PoolT) (d : DepT) (own : Bool) (o : OfferT) : Bool := (o.own || !own) && H1 m st.kind d o
def C8 (m : Int → Int → List UInt8 → Int → List UInt8 → Bool × Int) (st : PoolT) (d : DepT) (own : Bool) (i : Nat) : List Int := (((B8 (Bc st.all st.all.length) d.name).take i).filter (Fs m st d own)).map fun o => o.id
def Dz (m : Int → Int → List UInt8 → Int → List UInt8 → Bool × Int) (st : PoolT) (d : DepT) (own : Bool) : List Int := Lib.compact (C8 m st d own (B8 (Bc st.all st.all.length) d.name).length)
theorem Xv {m : Int → Int → List UInt8 → Int → List UInt8 → Bool × Int} {st : PoolT} {d : DepT} {own : Bool} {i : Nat} (h : i < (B8 (Bc st.all st.all.length) d.name).length) : C8 m st d own (i + 1) = C8 m st d own i ++ (if Fs m st d own (nth (B8 (Bc st.all st.all.length) d.name) i) = true then [(nth (B8 (Bc st.all st.all.length) d.name) i).id] else []) := by
 unfold C8
 rw [List.take_add_one, List.getElem?_eq_getElem h, List.filter_append, List.map_append]
 congr 1
 have : nth (B8 (Bc st.all st.all.length) d.name) i = (B8 (Bc st.all st.all.length) d.name)[i] := by simp [nth, h]
 rw [this]
 cases hc : Fs m st d own (B8 (Bc st.all st.all.length) d.name)[i] <;> simp [hc]
theorem Rg {m : Int → Int → List UInt8 → Int → List UInt8 → Bool × Int} {st : PoolT} {d : DepT} {own : Bool} {i : Nat} : (C8 m st d own i).length ≤ (B8 (Bc st.all st.all.length) d.name).length := by
 unfold C8
 rw [List.length_map]
 exact Nat.le_trans (List.length_filter_le _ _) (by simp; omega)
theorem Q6r {m : Int → Int → List UInt8 → Int → List UInt8 → Bool × Int} {st : PoolT} {d : DepT} {own : Bool} {i : Nat} (h : i < (B8 (Bc st.all st.all.length) d.name).length) (hc : Fs m st d own (nth (B8 (Bc st.all st.all.length) d.name) i) = true) : (C8 m st d own (i + 1)).map (AV.int .i64) = (C8 m st d own i).map (AV.int .i64) ++ [.int .i64 (nth (B8 (Bc st.all st.all.length) d.name) i).id] := by
 rw [Xv h, if_pos hc, List.map_append]; rfl
theorem Q6s {m : Int → Int → List UInt8 → Int → List UInt8 → Bool × Int} {st : PoolT} {d : DepT} {own : Bool} {i : Nat} (h : i < (B8 (Bc st.all st.all.length) d.name).length) (hc : Fs m st d own (nth (B8 (Bc st.all st.all.length) d.name) i) = false) : C8 m st d own (i + 1) = C8 m st d own i := by
 rw [Xv h, if_neg (by rw [hc]; simp), List.append_nil]
theorem Q6j (l : List Int) (a : AV) (p : Int → Bool) (hl : l.length ≤ 4611686018427387904) (ha : ∀ i, i < l.length → FunV Tryz.prog a [(.int .i64 (nth l i))] (.bool (p (nth l i)))) :
  FnV Tryz.prog 119 [(Bu l), (.clo a)] (.int .i64 (D0 p l)) := by
 refine Ba [.tmp 4] Tryz.func119 rfl Tryz.ntmps119 rfl rfl (fun B F hF => ?_)
 refine Aa [] [0, 1] ?_
 refine Ab ?_
 refine Aa [] [0, 1, 7, 8] ?_
 refine A3 ?_
 refine Bs (fun g y => ∃ (i : Nat), i ≤ l.length ∧ (∀ j, j < i → p (nth l j) = false) ∧ y = ⟨[(0, (Bu l)), (1, (.clo a)), (7, (.int .i64 ((l.length : Int)))), (8, (.int .i64 ((i : Int))))], [], 0⟩ ∧ g = l.length - i) [0, 1, 7, 8] 0 _ (by omega) ⟨0, (by omega), (by exact fun j hj => by omega), (by kernel_rfl), rfl⟩ ?_
 rintro g1 y1 ⟨i, f1_1, f1_2, rfl, rfl⟩
 refine Aa [] [0, 1, 7, 8, 9] ?_
 refine Ab ?_
 refine A8 (p := (i : Int) < (l.length : Int)) (by kernel_rfl) (fun c1 => ?_) (fun c1 => ?_)
 ·refine Ai ?_
  refine Ab ?_
  refine A3 ?_
  refine Aa [] [0, 1, 5, 7, 8] ?_
  refine Ab ?_
  refine Ar ?_
  refine Bj 5 0 [] [0, 1, 5, 7, 8, 11, 15] [] hk0 v0 (cc 3 (p := (0 ≤ (i : Int) ∧ i < l.length)) (by omega) <| c0) ?_
  refine F7 (s' := [(0, (Bu l)), (1, (.clo a)), (5, (.int .i64 ((i : Int)))), (7, (.int .i64 ((l.length : Int)))), (8, (.int .i64 ((i : Int)))), (11, (.clo a)), (15, (.int .i64 (nth l i))), (16, (.bool (p (nth l i))))]) (a := (.clo a)) (al := [(.int .i64 (nth l i))]) (r := (.bool (p (nth l i)))) (by kernel_rfl) (by kernel_rfl) (by kernel_rfl) (by kernel_rfl) (by kernel_rfl) ((ha i (by omega)).clo) (by kernel_rfl) ?_
  refine Be ?_
  refine A9 (q := p (nth l i)) (by kernel_rfl) (fun c2 => ?_) (fun c2 => ?_)
  ·try simp only [Al] at c2
   refine Aa [] [4] ?_
   refine Ag ?_
   refine RK wR [(.int .i64 ((i : Int)))] ?_
   exact Same.of_eq (by rw [Jq (by omega) f1_2 (by simp_all)]; rfl)
  ·try simp only [Al] at c2
   refine Ai ?_
   refine Ar ?_
   refine A2 0 [] [0, 1, 7, 8] [] hk0 v0 (cc 0 (p := (-9223372036854775808 ≤ (i : Int) + 1 ∧ (i : Int) + 1 ≤ 9223372036854775807)) (by omega) <| c0) ?_
   refine ⟨by kernel_rfl, _, ?_, i + 1, ?_, ?_, (by kernel_rfl), rfl⟩
   ·omega
   ·omega
   ·intro j hj
    by_cases h : j = i
    ·subst h; simp_all
    ·exact f1_2 j (by omega)
 ·refine Bl ?_
  refine Aa [] [4] ?_
  refine Ag ?_
  refine RK wR [(.int .i64 (-1))] ?_
  exact Same.of_eq (by rw [Jp (fun j hj => f1_2 j (by omega))]; rfl)
theorem Xj (l : List Int) (a : AV) (p : Int → Bool) (hl : l.length ≤ 4611686018427387904) (ha : ∀ i, i < l.length → FunV Tryz.prog a [(.int .i64 (nth l i))] (.bool (p (nth l i)))) :
  FnV Tryz.prog 59 [(Bu l), (.clo a)] (.bool (l.any p)) := by
 refine Ba [.tmp 4] Tryz.func59 rfl Tryz.ntmps59 rfl rfl (fun B F hF => ?_)
 refine Aa [] [0, 1] ?_
 refine Ae [] [4] [] (hk 2 Q9b (Q6j l a p hl ha) <| hk0) v0 c0 ?_
 refine Ag ?_
 refine RK wR [(.bool (decide (0 ≤ (D0 p l))))] ?_
 exact Same.of_eq (by simp only [Aj]; rw [Jr])
theorem Q7a (m : Int → Int → List UInt8 → Int → List UInt8 → Bool × Int) (hM : G2 m) (st : PoolT) (d : DepT) (o : OfferT) (hd : d.size ≤ 4194304) (ho : o.evr.length ≤ 4194304) :
  FnV Tryz.prog 117 [(.fp (Cb st)), (.agg [(.int .i64 d.kind), (.str d.name), (.int .i64 d.op), (.str d.evr), (.row 5 d.args.length (depAt d.args))]), (.agg [(.int .i64 o.id), (.bool o.own), (.int .i64 o.op), (.str o.evr)])] (.bool (H1 m st.kind d o)) := by
 have hda := Ee d
 refine Ba [.tmp 6] Tryz.func117 rfl Tryz.ntmps117 rfl rfl (fun B F hF => ?_)
 refine Ae [] [0, 4, 5] [(1, 4), (2, 5)] hk0 v0 c0 ?_
 refine Ab ?_
 obtain ⟨b1, hb1⟩ : ∃ b, b = (decide (d.op = 0)) := ⟨_, rfl⟩
 refine Ae (CS := [(5, ((!b1) = true → (!b1) = true)), (6, ((!b1) = true → (!b1) = true)), (7, (b1 = false → (!b1) = true))]) [13, 14, 15] [0, 4, 5, 16] [] hk0 (vk 4 12 (a := .bool (decide (d.op = 0))) (b := .bool b1) (Imp.of_eq (by rw [hb1])) <| v0) (by refine cc _ ?_ <| cc _ ?_ <| cc _ ?_ c0 <;> simp) ?_
 refine A9 (q := b1 || (decide (o.op = 0))) (by kernel_rfl) (fun c1 => ?_) (fun c1 => ?_)
 ·subst hb1
  try simp only [Al] at c1
  refine Aa [] [6] ?_
  refine Ag ?_
  refine RK wR [(.bool (decide (d.op = 0)))] ?_
  exact Same.of_eq (by simp only [Aj]; unfold H1; rw [if_pos (by simpa using c1)])
 ·subst hb1
  try simp only [Al] at c1
  refine Ai ?_
  refine Cg [] [7] [] (hk 12 Q8m (hM st.kind d.op d.evr o.op o.evr (by omega) ho) <| hk0) v0 c0 ?_
  refine Aa [] [6] ?_
  refine Ag ?_
  refine RK wR [(.bool ((m st.kind d.op d.evr o.op o.evr).1))] ?_
  exact Same.of_eq (by simp only [Aj]; unfold H1; rw [if_neg (by simpa using c1)])
theorem Wx (m : Int → Int → List UInt8 → Int → List UInt8 → Bool × Int) (hM : G2 m) (st : PoolT) (hi : IdxOk st) (d : DepT) (own : Bool) (hd : d.size ≤ 4194304) :
  FnV Tryz.prog 57 [(.fp (Cb st)), (.agg [(.int .i64 d.kind), (.str d.name), (.int .i64 d.op), (.str d.evr), (.row 5 d.args.length (depAt d.args))]), (.bool own)] (Bu (Dz m st d own)) := by
 have hlg : (A6 (Bc st.all st.all.length) d.name).length = (B8 (Bc st.all st.all.length) d.name).length := List.length_map _
 have hll := hi.len d.name
 refine Ba [.tmp 6] Tryz.func57 rfl Tryz.ntmps57 rfl rfl (fun B F hF => ?_)
 refine Ae [] [0, 2, 4] [(1, 4)] hk0 v0 c0 ?_
 refine Aa [] [0, 2, 4, 7] ?_
 refine Ab ?_
 refine Ab ?_
 refine Hr (by kernel_rfl) (fun F1 hF1 => ?_)
 refine Cp (fuel := 2) [] [0, 1, 2, 3, 4, 5, 8] [0, 2, 4, 7, 13, 15, 18] Aw ?_
 refine Dt (fuel := 1) 6 (by kernel_rfl) ?_
 refine Bm (fuel := 1) 6 rfl ?_
 refine X18 (s := d.name) (z := .slice none 0 0) (G := fun s => .row 4 (A6 (Bc st.all st.all.length) s).length (fun i => (A6 (Bc st.all st.all.length) s).getD i Bh)) (s' := [(0, (.fp (Cb st))), (2, (.bool own)), (4, (.fp (.agg [(.int .i64 d.kind), (.str d.name), (.int .i64 d.op), (.str d.evr), (.row 5 d.args.length (depAt d.args))]))), (7, .nils), (13, (.smap (.slice none 0 0) (fun s => .row 4 (A6 (Bc st.all st.all.length) s).length (fun i => (A6 (Bc st.all st.all.length) s).getD i Bh)))), (15, (.str d.name)), (18, (.int .i64 0)), (16, (.row 4 (A6 (Bc st.all st.all.length) d.name).length (fun i => (A6 (Bc st.all st.all.length) d.name).getD i Bh)))]) (by kernel_rfl) (by kernel_rfl) (by kernel_rfl) Tryz.underlying78 Tryz.underlying9 (fun _ => by kernel_rfl) (by kernel_rfl) ?_
 refine Be ⟨rfl, ?_⟩
 refine Cp (fuel := 0) [] [7] [0, 2, 4, 7, 16, 17, 18] Aw ?_
 refine An [0, 2, 4, 7, 16, 17, 18] ?_
 refine Gn (by kernel_rfl) ?_
 refine A3 ?_
 refine S0 16 (Ah 4 Hy (B8 (Bc st.all st.all.length) d.name)) (by kernel_rfl) (Q41 (Bc st.all st.all.length) d.name) ?_
 refine Pk 3 1 7 (y := ⟨[(0, (.fp (Cb st))), (2, (.bool own)), (4, (.fp (.agg [(.int .i64 d.kind), (.str d.name), (.int .i64 d.op), (.str d.evr), (.row 5 d.args.length (depAt d.args))]))), (7, (.own 1)), (16, (Ah 4 Hy (B8 (Bc st.all st.all.length) d.name))), (17, (.int .i64 (((A6 (Bc st.all st.all.length) d.name).length : Int)))), (18, (.int .i64 0))], [(1, (.grow [] 3 1))], 2⟩) (by kernel_rfl) (by kernel_rfl) ?_
 refine Bs (fun g y => ∃ (i : Nat), i ≤ (B8 (Bc st.all st.all.length) d.name).length ∧ y = ⟨[(0, (.fp (Cb st))), (2, (.bool own)), (4, (.fp (.agg [(.int .i64 d.kind), (.str d.name), (.int .i64 d.op), (.str d.evr), (.row 5 d.args.length (depAt d.args))]))), (7, (.own 1)), (16, (Ah 4 Hy (B8 (Bc st.all st.all.length) d.name))), (17, (.int .i64 (((A6 (Bc st.all st.all.length) d.name).length : Int)))), (18, (.int .i64 ((i : Int))))], [(1, (.grow ((C8 m st d own i).map (AV.int .i64)) 3 1))], 2⟩ ∧ g = (B8 (Bc st.all st.all.length) d.name).length - i) [0, 2, 4, 7, 16, 17, 18] 2 _ (by omega) ⟨0, (by omega), (by kernel_rfl), rfl⟩ ?_
 rintro g1 y1 ⟨i, f1_1, rfl, rfl⟩
 have hhl := Rg (m := m) (st := st) (d := d) (own := own) (i := i)
 have hhm : ((C8 m st d own i).map (AV.int .i64)).length = (C8 m st d own i).length := List.length_map _
 refine Aa [] [0, 2, 4, 7, 16, 17, 18, 19] ?_
 refine Ab ?_
 refine A8 (p := (i : Int) < ((A6 (Bc st.all st.all.length) d.name).length : Int)) (by kernel_rfl) (fun c1 => ?_) (fun c1 => ?_)
 ·refine Ai ?_
  refine Ab ?_
  refine A3 ?_
  refine Ae [] [0, 2, 4, 7, 9, 16, 17, 18] [] hk0 v0 (cc 0 (p := (0 ≤ (i : Int) ∧ i < (B8 (Bc st.all st.all.length) d.name).length)) (by omega) <| c0) ?_
  obtain ⟨b1, hb1⟩ : ∃ b, b = ((nth (B8 (Bc st.all st.all.length) d.name) i).own) := ⟨_, rfl⟩
  refine Ae (CS := [(4, ((!b1) = true → (!b1) = true)), (5, (b1 = false → (!b1) = true)), (10, (b1 || (!own)) = true → (b1 || (!own)) = true ∧ (b1 || (!own)) = true ∧ (b1 || (!own)) = true), (11, ((b1 || (!own)) = true → (b1 || (!own)) = true))]) [25, 26, 29, 30, 31] [0, 2, 4, 7, 9, 16, 17, 18, 33] [(0, 9)] (hkg 10 (b1 || (!own)) Q9d (fun cg => Q7a m hM st d (nth (B8 (Bc st.all st.all.length) d.name) i) hd (hi.evr (by omega))) <| hk0) (vk 3 24 (a := .bool ((nth (B8 (Bc st.all st.all.length) d.name) i).own)) (b := .bool b1) (Imp.of_eq (by rw [hb1])) <| v0) (by refine cc _ ?_ <| cc _ ?_ <| cc _ ?_ <| cc _ ?_ c0 <;> simp) ?_
  refine A9 (q := (b1 || (!own)) && (H1 m st.kind d (nth (B8 (Bc st.all st.all.length) d.name) i))) (by kernel_rfl) (fun c2 => ?_) (fun c2 => ?_)
  ·subst hb1
   try simp only [Al] at c2
   refine Ar ?_
   refine A2 0 [] [0, 2, 4, 7, 16, 17, 18] [] hk0 v0 (cc 4 (p := ((((C8 m st d own i).map (AV.int .i64)).length + 1) * 8 ≤ 140737488355328)) (by omega) <| c0) ?_
   refine Ar ?_
   refine A2 0 [] [0, 2, 4, 7, 16, 17, 18] [] hk0 v0 (cc 0 (p := (-9223372036854775808 ≤ (i : Int) + 1 ∧ (i : Int) + 1 ≤ 9223372036854775807)) (by omega) <| c0) ?_
   refine ⟨by kernel_rfl, _, ?_, i + 1, ?_, (Eq.trans (b := (⟨[(0, (.fp (Cb st))), (2, (.bool own)), (4, (.fp (.agg [(.int .i64 d.kind), (.str d.name), (.int .i64 d.op), (.str d.evr), (.row 5 d.args.length (depAt d.args))]))), (7, (.own 1)), (16, (Ah 4 Hy (B8 (Bc st.all st.all.length) d.name))), (17, (.int .i64 (((A6 (Bc st.all st.all.length) d.name).length : Int)))), (18, (.int .i64 ((i : Int) + 1)))], [(1, (.grow (((C8 m st d own i).map (AV.int .i64)) ++ ([(.int .i64 ((nth (B8 (Bc st.all st.all.length) d.name) i).id))] : List AV)) 3 1))], 2⟩ : St)) (by kernel_rfl) (by rw [Q6r (by omega) (by unfold Fs; simpa using c2)] <;> kernel_rfl)), rfl⟩
   ·omega
   ·omega
  ·subst hb1
   try simp only [Al] at c2
   refine Ai ?_
   refine Ar ?_
   refine A2 0 [] [0, 2, 4, 7, 16, 17, 18] [] hk0 v0 (cc 0 (p := (-9223372036854775808 ≤ (i : Int) + 1 ∧ (i : Int) + 1 ≤ 9223372036854775807)) (by omega) <| c0) ?_
   refine ⟨by kernel_rfl, _, ?_, i + 1, ?_, (Eq.trans (b := (⟨[(0, (.fp (Cb st))), (2, (.bool own)), (4, (.fp (.agg [(.int .i64 d.kind), (.str d.name), (.int .i64 d.op), (.str d.evr), (.row 5 d.args.length (depAt d.args))]))), (7, (.own 1)), (16, (Ah 4 Hy (B8 (Bc st.all st.all.length) d.name))), (17, (.int .i64 (((A6 (Bc st.all st.all.length) d.name).length : Int)))), (18, (.int .i64 ((i : Int) + 1)))], [(1, (.grow ((C8 m st d own i).map (AV.int .i64)) 3 1))], 2⟩ : St)) (by kernel_rfl) (by rw [Q6s (by omega) (by unfold Fs; simp only [Bool.and_eq_false_iff, Bool.or_eq_false_iff, Bool.not_eq_false']; simpa only [Bool.not_eq_false', Bool.not_eq_eq_eq_not, Bool.not_false] using c2)] <;> kernel_rfl)), rfl⟩
   ·omega
   ·omega
 ·refine Bl ?_
  refine Ab ?_
  refine Ar ?_
  refine Bj 1 0 [] [40] [] hk0 v0 c0 ?_
  refine C3 [1] (al := [(.own 1)]) (al' := [(.own 0)]) (r := (.own 0)) (r' := (.own 1)) (s' := [(40, Bh), (41, (.own 1))]) (H := [(0, (.grow ((C8 m st d own i).map (AV.int .i64)) 3 1))]) (H' := [(0, (.grow ((Lib.compact (C8 m st d own i)).map (AV.int .i64)) 3 1))]) (h2 := [(1, (.grow ((Lib.compact (C8 m st d own i)).map (AV.int .i64)) 3 1))]) (by kernel_rfl) (by exact Q9c) (by kernel_rfl) (by kernel_rfl) (by kernel_rfl) (by kernel_rfl) (by kernel_rfl) (Q97 (C8 m st d own i) (by have := Rg (m := m) (st := st) (d := d) (own := own) (i := i); omega)) (by kernel_rfl) (by kernel_rfl) (by kernel_rfl) ?_
  refine A2 2 [] [6] [] hk0 v0 c0 ?_
  refine Ag ?_
  refine RK wR [(.row 1 ((Lib.compact (C8 m st d own i)).map (AV.int .i64)).length (fun ix => ((Lib.compact (C8 m st d own i)).map (AV.int .i64)).getD ix Bh))] ?_
  rw [show i = (B8 (Bc st.all st.all.length) d.name).length from by omega]
  exact Same.list (f := AV.int .i64) (List.length_map _)
end Sv
end Go.Proofs.YtlfjokcbkopfeaaGreatDoor
end
section
namespace Go.Proofs.YtlfjokcbkopfeaaGreatDoor
open Go Go.RowKit
namespace Sv
attribute [local irreducible] SW SO Bg
set_option maxHeartbeats 400000
set_option maxRecDepth 100000
theorem Q8n : As Tryz.prog 158 := Ax Tryz.func158 (by kernel_rfl) rfl
theorem Q9f : As Tryz.prog 115 := Ax Tryz.func115 (by kernel_rfl) rfl
theorem Q9i : As Tryz.prog 112 := Ax Tryz.func112 (by kernel_rfl) rfl
theorem Q9h : As Tryz.prog 113 := Ax Tryz.func113 (by kernel_rfl) rfl
theorem Q9g : As Tryz.prog 114 := Ax Tryz.func114 (by kernel_rfl) rfl
theorem Q9e : As Tryz.prog 116 := Ax Tryz.func116 (by kernel_rfl) rfl
theorem Ry : As Tryz.prog 55 := Ax Tryz.func55 (by kernel_rfl) rfl
theorem Q72 : As Tryz.prog 54 := Ax Tryz.func54 (by kernel_rfl) rfl
instance : Inhabited AV := ⟨.nilf⟩
def Fy (q : AV × Bool) : AV := .clo q.1
def L3 (l : List Int) (v : Int) : Int := D0 (fun x => decide (v = x)) l
theorem Q6l (l : List Int) (v : Int) (hl : l.length ≤ 4611686018427387904) :
  FnV Tryz.prog 128 [(Bu l), (.int .i64 v)] (.int .i64 (L3 l v)) := by
 refine Ba [.tmp 4] Tryz.func128 rfl Tryz.ntmps128 rfl rfl (fun B F hF => ?_)
 refine Aa [] [0, 1] ?_
 refine Ab ?_
 refine Aa [] [0, 1, 7, 8] ?_
 refine A3 ?_
 refine Bs (fun g y => ∃ (i : Nat), i ≤ l.length ∧ (∀ j, j < i → ¬ v = nth l j) ∧ y = ⟨[(0, (Bu l)), (1, (.int .i64 v)), (7, (.int .i64 ((l.length : Int)))), (8, (.int .i64 ((i : Int))))], [], 0⟩ ∧ g = l.length - i) [0, 1, 7, 8] 0 _ (by omega) ⟨0, (by omega), (by exact fun j hj => by omega), (by kernel_rfl), rfl⟩ ?_
 rintro g1 y1 ⟨i, f1_1, f1_2, rfl, rfl⟩
 refine Aa [] [0, 1, 7, 8, 9] ?_
 refine Ab ?_
 refine A8 (p := (i : Int) < (l.length : Int)) (by kernel_rfl) (fun c1 => ?_) (fun c1 => ?_)
 ·refine Ai ?_
  refine Ab ?_
  refine A3 ?_
  refine Aa [] [0, 1, 5, 7, 8] ?_
  refine Ae [] [0, 1, 5, 7, 8, 16] [] hk0 v0 (cc 3 (p := (0 ≤ (i : Int) ∧ i < l.length)) (by omega) <| c0) ?_
  refine A8 (p := v = (nth l i)) (by kernel_rfl) (fun c2 => ?_) (fun c2 => ?_)
  ·refine Aa [] [4] ?_
   refine Ag ?_
   refine RK wR [(.int .i64 ((i : Int)))] ?_
   exact Same.of_eq (by unfold L3; rw [Jq (p := fun x => decide (v = x)) (i := i) (by omega) (fun j hj => by simpa using f1_2 j hj) (by simpa using c2)]; rfl)
  ·refine Ai ?_
   refine Ar ?_
   refine A2 0 [] [0, 1, 7, 8] [] hk0 v0 (cc 0 (p := (-9223372036854775808 ≤ (i : Int) + 1 ∧ (i : Int) + 1 ≤ 9223372036854775807)) (by omega) <| c0) ?_
   refine ⟨by kernel_rfl, _, ?_, i + 1, ?_, ?_, (by kernel_rfl), rfl⟩
   ·omega
   ·omega
   ·intro j hj
    by_cases h : j = i
    ·subst h; assumption
    ·exact f1_2 j (by omega)
 ·refine Bl ?_
  refine Aa [] [4] ?_
  refine Ag ?_
  refine RK wR [(.int .i64 (-1))] ?_
  exact Same.of_eq (by unfold L3; rw [Jp (p := fun x => decide (v = x)) (fun j hj => by simpa using f1_2 j (by omega))]; rfl)
theorem Q92 (l : List Int) (v : Int) (hl : l.length ≤ 4611686018427387904) :
  FnV Tryz.prog 78 [(Bu l), (.int .i64 v)] (.bool (l.any fun x => decide (v = x))) := by
 refine Ba [.tmp 4] Tryz.func78 rfl Tryz.ntmps78 rfl rfl (fun B F hF => ?_)
 refine Aa [] [0, 1] ?_
 refine Ae [] [4] [] (hk 2 Q85 (Q6l l v hl) <| hk0) v0 c0 ?_
 refine Ag ?_
 refine RK wR [(.bool (decide (0 ≤ (L3 l v))))] ?_
 exact Same.of_eq (by simp only [Aj]; unfold L3; rw [Jr])
theorem Q6z (l : List (AV × Bool)) (a : AV) (p : (AV × Bool) → Bool) (hl : l.length ≤ 4611686018427387904) (ha : ∀ i, i < l.length → FunV Tryz.prog a [(.clo ((nth l i).1))] (.bool (p (nth l i)))) :
  FnV Tryz.prog 158 [(Ah 1 Fy l), (.clo a)] (.int .i64 (D0 p l)) := by
 refine Ba [.tmp 4] Tryz.func158 rfl Tryz.ntmps158 rfl rfl (fun B F hF => ?_)
 refine Aa [] [0, 1] ?_
 refine Ab ?_
 refine Aa [] [0, 1, 7, 8] ?_
 refine A3 ?_
 refine Bs (fun g y => ∃ (i : Nat), i ≤ l.length ∧ (∀ j, j < i → p (nth l j) = false) ∧ y = ⟨[(0, (Ah 1 Fy l)), (1, (.clo a)), (7, (.int .i64 ((l.length : Int)))), (8, (.int .i64 ((i : Int))))], [], 0⟩ ∧ g = l.length - i) [0, 1, 7, 8] 0 _ (by omega) ⟨0, (by omega), (by exact fun j hj => by omega), (by kernel_rfl), rfl⟩ ?_
 rintro g1 y1 ⟨i, f1_1, f1_2, rfl, rfl⟩
 refine Aa [] [0, 1, 7, 8, 9] ?_
 refine Ab ?_
 refine A8 (p := (i : Int) < (l.length : Int)) (by kernel_rfl) (fun c1 => ?_) (fun c1 => ?_)
 ·refine Ai ?_
  refine Ab ?_
  refine A3 ?_
  refine Aa [] [0, 1, 5, 7, 8] ?_
  refine Ab ?_
  refine Ar ?_
  refine Bj 5 0 [] [0, 1, 5, 7, 8, 11, 15] [] hk0 v0 (cc 3 (p := (0 ≤ (i : Int) ∧ i < l.length)) (by omega) <| c0) ?_
  refine F7 (s' := [(0, (Ah 1 Fy l)), (1, (.clo a)), (5, (.int .i64 ((i : Int)))), (7, (.int .i64 ((l.length : Int)))), (8, (.int .i64 ((i : Int)))), (11, (.clo a)), (15, (.clo ((nth l i).1))), (16, (.bool (p (nth l i))))]) (a := (.clo a)) (al := [(.clo ((nth l i).1))]) (r := (.bool (p (nth l i)))) (by kernel_rfl) (by kernel_rfl) (by kernel_rfl) (by kernel_rfl) (by kernel_rfl) ((ha i (by omega)).clo) (by kernel_rfl) ?_
  refine Be ?_
  refine A9 (q := p (nth l i)) (by kernel_rfl) (fun c2 => ?_) (fun c2 => ?_)
  ·try simp only [Al] at c2
   refine Aa [] [4] ?_
   refine Ag ?_
   refine RK wR [(.int .i64 ((i : Int)))] ?_
   exact Same.of_eq (by rw [Jq (by omega) f1_2 (by simp_all)]; rfl)
  ·try simp only [Al] at c2
   refine Ai ?_
   refine Ar ?_
   refine A2 0 [] [0, 1, 7, 8] [] hk0 v0 (cc 0 (p := (-9223372036854775808 ≤ (i : Int) + 1 ∧ (i : Int) + 1 ≤ 9223372036854775807)) (by omega) <| c0) ?_
   refine ⟨by kernel_rfl, _, ?_, i + 1, ?_, ?_, (by kernel_rfl), rfl⟩
   ·omega
   ·omega
   ·intro j hj
    by_cases h : j = i
    ·subst h; simp_all
    ·exact f1_2 j (by omega)
 ·refine Bl ?_
  refine Aa [] [4] ?_
  refine Ag ?_
  refine RK wR [(.int .i64 (-1))] ?_
  exact Same.of_eq (by rw [Jp (fun j hj => f1_2 j (by omega))]; rfl)
theorem Q60 (l : List (AV × Bool)) (a : AV) (p : (AV × Bool) → Bool) (hl : l.length ≤ 4611686018427387904) (ha : ∀ i, i < l.length → FunV Tryz.prog a [(.clo ((nth l i).1))] (.bool (p (nth l i)))) :
  FnV Tryz.prog 115 [(Ah 1 Fy l), (.clo a)] (.bool (l.any p)) := by
 refine Ba [.tmp 4] Tryz.func115 rfl Tryz.ntmps115 rfl rfl (fun B F hF => ?_)
 refine Aa [] [0, 1] ?_
 refine Ae [] [4] [] (hk 2 Q8n (Q6z l a p hl ha) <| hk0) v0 c0 ?_
 refine Ag ?_
 refine RK wR [(.bool (decide (0 ≤ (D0 p l))))] ?_
 exact Same.of_eq (by simp only [Aj]; rw [Jr])
theorem X1c (l : List Int) (id : Int) (hl : l.length ≤ 4611686018427387904) :
  FnV Tryz.prog 112 [(.int .i64 id), (.fp (.agg [(Bu l)]))] (.bool (l.any fun x => decide (id = x))) := by
 refine Ba [.tmp 3] Tryz.func112 rfl Tryz.ntmps112 rfl rfl (fun B F hF => ?_)
 refine Aa [] [0, 1] ?_
 refine Ae [] [3] [] (hk 2 Q7w (Q92 l id hl) <| hk0) v0 c0 ?_
 refine Ag ?_
 refine RK wR [(.bool (l.any fun x => decide (id = x)))] ?_
 exact Same.of_eq (by first | rfl | (simp only [Aj]; simp_all))
theorem X1b (l : List (AV × Bool)) (id : Int) (hl : 2 ≤ l.length) (hf : ∀ i, i < l.length → FunV Tryz.prog (nth l i).1 [.int .i64 id] (.bool (nth l i).2)) :
  FnV Tryz.prog 113 [(.int .i64 id), (.fp (.agg [(Ah 1 Fy l)]))] (.bool ((nth l 0).2 && !(nth l 1).2)) := by
 refine Ba [.tmp 3] Tryz.func113 rfl Tryz.ntmps113 rfl rfl (fun B F hF => ?_)
 refine Aa [] [0, 1] ?_
 refine Ab ?_
 refine Ar ?_
 refine Bj 4 0 [] [0, 1, 6, 7] [] hk0 v0 (cc 1 (p := (0 ≤ (0 : Int) ∧ 0 < l.length)) (by omega) <| c0) ?_
 refine F7 (s' := [(0, (.int .i64 id)), (1, (.fp (.agg [(Ah 1 Fy l)]))), (6, (.clo ((nth l 0).1))), (7, (.int .i64 id)), (8, (.bool ((nth l 0).2)))]) (a := (.clo ((nth l 0).1))) (al := [(.int .i64 id)]) (r := (.bool ((nth l 0).2))) (by kernel_rfl) (by kernel_rfl) (by kernel_rfl) (by kernel_rfl) (by kernel_rfl) ((hf 0 (by omega)).clo) (by kernel_rfl) ?_
 refine Bj 1 5 [] [0, 1, 9] [] hk0 v0 c0 ?_
 refine Pb ((nth l 0).2) (fun c1 => ?_) (fun c1 => ?_)
 ·refine Ff 9 (a := .bool ((nth l 0).2)) (.bool true) (by kernel_rfl) (Imp.of_eq (by rw [c1])) ?_
  refine Bj 4 6 [] [9, 12, 13] [] hk0 v0 (cc 7 (p := (0 ≤ (1 : Int) ∧ 1 < l.length)) (by omega) <| c0) ?_
  refine F7 (s' := [(9, (.bool true)), (12, (.clo ((nth l 1).1))), (13, (.int .i64 id)), (14, (.bool ((nth l 1).2)))]) (a := (.clo ((nth l 1).1))) (al := [(.int .i64 id)]) (r := (.bool ((nth l 1).2))) (by kernel_rfl) (by kernel_rfl) (by kernel_rfl) (by kernel_rfl) (by kernel_rfl) ((hf 1 (by omega)).clo) (by kernel_rfl) ?_
  refine A2 11 [] [3] [] hk0 v0 c0 ?_
  refine Ag ?_
  refine RK wR [(.bool (!((nth l 1).2)))] ?_
  exact Same.of_eq (by simp only [Aj]; simp_all)
 ·refine Ff 9 (a := .bool ((nth l 0).2)) (.bool false) (by kernel_rfl) (Imp.of_eq (by rw [c1])) ?_
  refine A2 6 [] [3] [] hk0 v0 c0 ?_
  refine Ag ?_
  refine RK wR [(.bool false)] ?_
  exact Same.of_eq (by simp only [Aj]; simp_all)
theorem X1a (a : AV) (q : Bool) (id : Int) (hf : FunV Tryz.prog a [.int .i64 id] (.bool q)) :
  FnV Tryz.prog 116 [(.clo a), (.fp (.agg [(.int .i64 id)]))] (.bool (!q)) := by
 refine Ba [.tmp 3] Tryz.func116 rfl Tryz.ntmps116 rfl rfl (fun B F hF => ?_)
 refine Aa [] [0, 1] ?_
 refine Ab ?_
 refine Ar ?_
 refine Bj 2 0 [] [4, 5] [] hk0 v0 c0 ?_
 refine F7 (s' := [(4, (.clo a)), (5, (.int .i64 id)), (6, (.bool q))]) (a := (.clo a)) (al := [(.int .i64 id)]) (r := (.bool q)) (by kernel_rfl) (by kernel_rfl) (by kernel_rfl) (by kernel_rfl) (by kernel_rfl) hf.clo (by kernel_rfl) ?_
 refine A2 3 [] [3] [] hk0 v0 c0 ?_
 refine Ag ?_
 refine RK wR [(.bool (!q))] ?_
 exact Same.of_eq (by first | rfl | (simp only [Aj]; simp_all))
theorem X09 (l : List (AV × Bool)) (id : Int) (hl : l.length ≤ 4611686018427387904) (hf : ∀ i, i < l.length → FunV Tryz.prog (nth l i).1 [.int .i64 id] (.bool (nth l i).2)) :
  FnV Tryz.prog 114 [(.int .i64 id), (.fp (.agg [(Ah 1 Fy l)]))] (.bool (!l.any fun q => !q.2)) := by
 refine Ba [.tmp 3] Tryz.func114 rfl Tryz.ntmps114 rfl rfl (fun B F hF => ?_)
 refine Aa [] [1, 2] ?_
 refine Ab ?_
 refine Ar ?_
 refine Bj 2 0 [] [4, 5] [] hk0 v0 c0 ?_
 refine Po (s' := [(4, (Ah 1 Fy l)), (5, (.fn 116 [] [(.ptr 0 0)])), (6, (.bool (l.any fun q => !q.2)))]) (al := [(Ah 1 Fy l), (.fn 116 [] [(.ptr 0 0)])]) (al' := [(Ah 1 Fy l), (.fn 116 [] [(.fp (.agg [(.int .i64 id)]))])]) (h' := []) (r := (.bool (l.any fun q => !q.2))) (by kernel_rfl) (by exact Q9f) (by kernel_rfl) (by kernel_rfl) ((Q60 l (.fn 116 [] [.fp (.agg [.int .i64 id])]) (fun q => !q.2) hl (fun i hi => FunV.of (by exact Q9e) (X1a (nth l i).1 (nth l i).2 id (hf i hi)))).of_args (ImpL.cons Imp.refl (ImpL.cons (Imp.clo rfl) ImpL.nil))) rfl (by kernel_rfl) ?_
 refine A2 3 [] [3] [] hk0 v0 c0 ?_
 refine Ag ?_
 refine RK wR [(.bool (!(l.any fun q => !q.2)))] ?_
 exact Same.of_eq (by first | rfl | (simp only [Aj]; simp_all))
theorem Q2r (k : Int) :
  FnV Tryz.prog 54 [(.int .i64 k)] (.bool (decide (k = 1) || (decide (k = 5) || decide (k = 6)))) := by
 refine Ba [.tmp 2] Tryz.func54 rfl Tryz.ntmps54 rfl rfl (fun B F hF => ?_)
 refine Aa [] [0] ?_
 obtain ⟨b1, hb1⟩ : ∃ b, b = ((decide (k = 1)) || (decide (k = 5))) := ⟨_, rfl⟩
 refine Ae (CS := [(4, ((!(decide (k = 1))) = true → (!(decide (k = 1))) = true)), (5, ((decide (k = 1)) = false → (!(decide (k = 1))) = true)), (8, ((!b1) = true → (!b1) = true)), (9, (b1 = false → (!b1) = true))]) [6, 7, 10, 11] [2] [] hk0 (vk 7 9 (a := .bool ((decide (k = 1)) || (decide (k = 5)))) (b := .bool b1) (Imp.of_eq (by rw [hb1])) <| v0) (by refine cc _ ?_ <| cc _ ?_ <| cc _ ?_ <| cc _ ?_ c0 <;> simp) ?_
 refine Ag ?_
 refine RK wR [(.bool (b1 || (decide (k = 6))))] ?_
 subst hb1
 exact Same.of_eq (by simp only [Aj, Bool.or_assoc])
end Sv
end Go.Proofs.YtlfjokcbkopfeaaGreatDoor
end
section
namespace Go.Proofs.YtlfjokcbkopfeaaGreatDoor
open Go Go.RowKit
namespace Sv
attribute [local irreducible] SW SO Bg
set_option maxHeartbeats 1000000
set_option maxRecDepth 100000
noncomputable def Bx (m : Int → Int → List UInt8 → Int → List UInt8 → Bool × Int) (st : PoolT) : Nat → DepT → AV
 | 0, _ => .nilf
 | n + 1, d => if d.kind = 1 then .fn 112 [] [.fp (.agg [Bu (Dz m st d false)])] else
  if d.kind = 6 then .fn 113 [] [.fp (.agg [.row 1 ((d.args.map (Bx m st n)).map AV.clo).length (fun i => ((d.args.map (Bx m st n)).map AV.clo).getD i Bh)])] else
  .fn 114 [] [.fp (.agg [.row 1 ((d.args.map (Bx m st n)).map AV.clo).length (fun i => ((d.args.map (Bx m st n)).map AV.clo).getD i Bh)])]
theorem Q0t {m : Int → Int → List UInt8 → Int → List UInt8 → Bool × Int} {st : PoolT} {n : Nat} {d : DepT} (h : d.kind = 1) : Bx m st (n + 1) d = .fn 112 [] [.fp (.agg [Bu (Dz m st d false)])] := by unfold Bx; rw [if_pos h]
theorem Q0s {m : Int → Int → List UInt8 → Int → List UInt8 → Bool × Int} {st : PoolT} {n : Nat} {d : DepT} (h : d.kind = 6) : Bx m st (n + 1) d = .fn 113 [] [.fp (.agg [.row 1 ((d.args.map (Bx m st n)).map AV.clo).length (fun i => ((d.args.map (Bx m st n)).map AV.clo).getD i Bh)])] := by unfold Bx; rw [if_neg (by omega), if_pos h]
theorem Q0u {m : Int → Int → List UInt8 → Int → List UInt8 → Bool × Int} {st : PoolT} {n : Nat} {d : DepT} (h1 : ¬ d.kind = 1) (h6 : ¬ d.kind = 6) : Bx m st (n + 1) d = .fn 114 [] [.fp (.agg [.row 1 ((d.args.map (Bx m st n)).map AV.clo).length (fun i => ((d.args.map (Bx m st n)).map AV.clo).getD i Bh)])] := by unfold Bx; rw [if_neg h1, if_neg h6]
theorem X08 {g : DepT → AV} {l : List DepT} {i : Nat} (h : i < l.length) : ((l.take (i + 1)).map g).map AV.clo = ((l.take i).map g).map AV.clo ++ [.clo (g (nth l i))] := by
 rw [List.take_add_one, List.getElem?_eq_getElem h, List.map_append, List.map_append]
 simp [nth, h]
theorem X06 (m : Int → Int → List UInt8 → Int → List UInt8 → Bool × Int) (hM : G2 m) (st : PoolT) (hi : IdxOk st) (n : Nat) (d : DepT) (hd : d.size ≤ 4194304) (ih : ∀ i, i < d.args.length → FnV Tryz.prog 55 [(.fp (Cb st)), (.agg [(.int .i64 ((nth d.args i).kind)), (.str ((nth d.args i).name)), (.int .i64 ((nth d.args i).op)), (.str ((nth d.args i).evr)), (.row 5 (nth d.args i).args.length (depAt (nth d.args i).args))])] (.clo (Bx m st n (nth d.args i)))) :
  FnV Tryz.prog 55 [(.fp (Cb st)), (.agg [(.int .i64 d.kind), (.str d.name), (.int .i64 d.op), (.str d.evr), (.row 5 d.args.length (depAt d.args))])] (.clo (Bx m st (n + 1) d)) := by
 have hda := Ee d
 have hal := Ds d.args
 refine Ba [.tmp 4] Tryz.func55 rfl Tryz.ntmps55 rfl rfl (fun B F hF => ?_)
 refine Ae [] [0, 3] [(1, 3)] hk0 v0 c0 ?_
 refine Ab ?_
 refine Aa [] [0, 3, 11] ?_
 refine A8 (p := d.kind = 1) (by kernel_rfl) (fun c1 => ?_) (fun c1 => ?_)
 ·refine Ae [] [5] [] (hk 2 Ys (Wx m hM st hi d false hd) <| hk0) v0 c0 ?_
  refine Aa [] [4] ?_
  refine Ag ?_
  refine RK wR [(.fn 112 [] [(.fp (.agg [(Bu (Dz m st d false))]))])] ?_
  simp only [Aj]
  rw [Q0t (by assumption)]
  exact (Imp.clo (by kernel_rfl)).same
 ·refine Ai ?_
  refine Aa [] [0, 3, 6] ?_
  refine Ab ?_
  refine Aa [] [0, 3, 6, 17, 18, 19] ?_
  refine A3 ?_
  refine S0 17 (Ah 5 Az d.args) (by kernel_rfl) (Eh d.args) ?_
  refine Ib 99 1 1 0 (y := ⟨[(0, (.fp (Cb st))), (3, (.fp (.agg [(.int .i64 d.kind), (.str d.name), (.int .i64 d.op), (.str d.evr), (.row 5 d.args.length (depAt d.args))]))), (6, (.ptr 1 0)), (17, (Ah 5 Az d.args)), (18, (.int .i64 ((d.args.length : Int)))), (19, (.int .i64 0))], [(1, (.row [(.own 2)] 149)), (2, (.grow [] 99 1))], 3⟩) (by kernel_rfl) (by kernel_rfl) ?_
  refine Bs (fun g y => ∃ (i : Nat), i ≤ d.args.length ∧ y = ⟨[(0, (.fp (Cb st))), (3, (.fp (.agg [(.int .i64 d.kind), (.str d.name), (.int .i64 d.op), (.str d.evr), (.row 5 d.args.length (depAt d.args))]))), (6, (.ptr 1 0)), (17, (Ah 5 Az d.args)), (18, (.int .i64 ((d.args.length : Int)))), (19, (.int .i64 ((i : Int))))], [(1, (.row [(.own 2)] 149)), (2, (.grow (((d.args.take i).map (Bx m st n)).map AV.clo) 99 1))], 3⟩ ∧ g = d.args.length - i) [0, 3, 6, 17, 18, 19] 3 _ (by omega) ⟨0, (by omega), (by kernel_rfl), rfl⟩ ?_
  rintro g1 y1 ⟨i, f1_1, rfl, rfl⟩
  have hgl : (((d.args.take i).map (Bx m st n)).map AV.clo).length ≤ 4611686018 := by simp only [List.length_map, List.length_take]; omega
  refine Aa [] [0, 3, 6, 17, 18, 19, 20] ?_
  refine Ab ?_
  refine A8 (p := (i : Int) < (d.args.length : Int)) (by kernel_rfl) (fun c2 => ?_) (fun c2 => ?_)
  ·refine Ai ?_
   refine C7 (fun y => y = ⟨[(0, (.fp (Cb st))), (3, (.fp (.agg [(.int .i64 d.kind), (.str d.name), (.int .i64 d.op), (.str d.evr), (.row 5 d.args.length (depAt d.args))]))), (6, (.ptr 1 0)), (17, (Ah 5 Az d.args)), (18, (.int .i64 ((d.args.length : Int)))), (19, (.int .i64 ((i : Int))))], [(1, (.row [(.own 2)] 149)), (2, (.grow (((d.args.take (i + 1)).map (Bx m st n)).map AV.clo) 99 1))], 3⟩) [0, 3, 6, 17, 18, 19] 3 (by omega) ?_ ?_
   ·refine A3 ?_
    refine Ae [] [0, 3, 6, 8, 17, 18, 19] [] hk0 v0 (cc 0 (p := (0 ≤ (i : Int) ∧ i < d.args.length)) (by omega) <| c0) ?_
    refine Pl 8 (y := ⟨[(0, (.fp (Cb st))), (3, (.fp (.agg [(.int .i64 d.kind), (.str d.name), (.int .i64 d.op), (.str d.evr), (.row 5 d.args.length (depAt d.args))]))), (6, (.ptr 1 0)), (8, (.fp (.agg [(.int .i64 ((nth d.args i).kind)), (.str ((nth d.args i).name)), (.int .i64 ((nth d.args i).op)), (.str ((nth d.args i).evr)), (.row 5 (nth d.args i).args.length (depAt (nth d.args i).args))]))), (17, (Ah 5 Az d.args)), (18, (.int .i64 ((d.args.length : Int)))), (19, (.int .i64 ((i : Int))))], [(1, (.row [(.own 2)] 149)), (2, (.grow (((d.args.take i).map (Bx m st n)).map AV.clo) 99 1))], 4⟩) (by kernel_rfl) ?_
    refine G1 [] [0, 3, 6, 17, 18, 19] [] (hk 3 Ry (ih i (by omega)) <| hk0) v0 (cc 5 (p := (((((d.args.take i).map (Bx m st n)).map AV.clo).length + 1) * 8 ≤ 140737488355328)) (by omega) <| c0) ?_
    refine ⟨by kernel_rfl, (Eq.trans (b := (⟨[(0, (.fp (Cb st))), (3, (.fp (.agg [(.int .i64 d.kind), (.str d.name), (.int .i64 d.op), (.str d.evr), (.row 5 d.args.length (depAt d.args))]))), (6, (.ptr 1 0)), (17, (Ah 5 Az d.args)), (18, (.int .i64 ((d.args.length : Int)))), (19, (.int .i64 ((i : Int))))], [(1, (.row [(.own 2)] 149)), (2, (.grow ((((d.args.take i).map (Bx m st n)).map AV.clo) ++ ([(.clo (Bx m st n (nth d.args i)))] : List AV)) 99 1))], 3⟩ : St)) (by kernel_rfl) (by rw [show ((((d.args.take i).map (Bx m st n)).map AV.clo) ++ ([(.clo (Bx m st n (nth d.args i)))] : List AV)) = ((d.args.take (i + 1)).map (Bx m st n)).map AV.clo from (X08 (g := Bx m st n) (l := d.args) (i := i) (by omega)).symm] <;> kernel_rfl))⟩
   ·rintro y1 rfl
    refine Ar ?_
    refine A2 0 [] [0, 3, 6, 17, 18, 19] [] hk0 v0 (cc 0 (p := (-9223372036854775808 ≤ (i : Int) + 1 ∧ (i : Int) + 1 ≤ 9223372036854775807)) (by omega) <| c0) ?_
    refine ⟨by kernel_rfl, _, ?_, i + 1, ?_, (by kernel_rfl), rfl⟩
    ·omega
    ·omega
  ·refine Bl ?_
   refine Ab ?_
   refine Aa [] [6, 32] ?_
   refine A8 (p := d.kind = 6) (by kernel_rfl) (fun c3 => ?_) (fun c3 => ?_)
   ·refine Ab ?_
    refine Ar ?_
    refine Gm 1 0 (y := ⟨[(6, (.ptr 1 0)), (32, (.bool (decide (d.kind = 6))))], [(1, (.row [(.row 1 (((d.args.take i).map (Bx m st n)).map AV.clo).length (fun ix => (((d.args.take i).map (Bx m st n)).map AV.clo).getD ix Bh))] 149))], 3⟩) (by kernel_rfl) ?_
    refine D4 [] [4] ?_
    refine Ag ?_
    refine RK wR [(.fn 113 [] [(.fp (.agg [(.row 1 (((d.args.take i).map (Bx m st n)).map AV.clo).length (fun ix => (((d.args.take i).map (Bx m st n)).map AV.clo).getD ix Bh))]))])] ?_
    rw [show i = d.args.length from by omega]
    simp only [Aj]
    rw [show d.args.take d.args.length = d.args from List.take_length]
    rw [Q0s (by assumption) ]
    exact (Imp.clo (by kernel_rfl)).same
   ·refine Ai ?_
    refine Ab ?_
    refine Ar ?_
    refine Gm 1 0 (y := ⟨[(6, (.ptr 1 0)), (32, (.bool (decide (d.kind = 6))))], [(1, (.row [(.row 1 (((d.args.take i).map (Bx m st n)).map AV.clo).length (fun ix => (((d.args.take i).map (Bx m st n)).map AV.clo).getD ix Bh))] 149))], 3⟩) (by kernel_rfl) ?_
    refine D4 [] [4] ?_
    refine Ag ?_
    refine RK wR [(.fn 114 [] [(.fp (.agg [(.row 1 (((d.args.take i).map (Bx m st n)).map AV.clo).length (fun ix => (((d.args.take i).map (Bx m st n)).map AV.clo).getD ix Bh))]))])] ?_
    rw [show i = d.args.length from by omega]
    simp only [Aj]
    rw [show d.args.take d.args.length = d.args from List.take_length]
    rw [Q0u (by assumption) (by assumption)]
    exact (Imp.clo (by kernel_rfl)).same
theorem Q0p (m : Int → Int → List UInt8 → Int → List UInt8 → Bool × Int) (hM : G2 m) (st : PoolT) (hi : IdxOk st) : ∀ (n : Nat) (d : DepT), d.size ≤ n → d.size ≤ 4194304 → FnV Tryz.prog 55 [(.fp (Cb st)), (.agg [(.int .i64 (d.kind)), (.str (d.name)), (.int .i64 (d.op)), (.str (d.evr)), (.row 5 d.args.length (depAt d.args))])] (.clo (Bx m st n d)) := by
 intro n
 induction n with
 | zero => intro d h; have := Ee d; omega
 | succ n ih => exact fun d h hd => X06 m hM st hi n d hd fun i hj => ih _ (by have h1 := Fi hj; omega) (by have h1 := Fi hj; omega)
end Sv
end Go.Proofs.YtlfjokcbkopfeaaGreatDoor
end
section
namespace Go.Proofs.YtlfjokcbkopfeaaGreatDoor
open Go Go.RowKit
namespace Sv
attribute [local irreducible] SW SO Bg
set_option maxHeartbeats 400000
set_option maxRecDepth 100000
theorem Lb : As Tryz.prog 61 := Ax Tryz.func61 (by kernel_rfl) rfl
theorem Q89 : As Tryz.prog 120 := Ax Tryz.func120 (by kernel_rfl) rfl
theorem Q88 : As Tryz.prog 121 := Ax Tryz.func121 (by kernel_rfl) rfl
theorem Q5l {m : Int → Int → List UInt8 → Int → List UInt8 → Bool × Int} {st : PoolT} (hi : IdxOk st) {d : DepT} {own : Bool} : (Dz m st d own).length ≤ 4611686018427387904 := by
 have h1 := Zy (C8 m st d own (B8 (Bc st.all st.all.length) d.name).length)
 have h2 := Rg (m := m) (st := st) (d := d) (own := own) (i := (B8 (Bc st.all st.all.length) d.name).length)
 have h3 := hi.len d.name
 unfold Dz; omega
def woB : Nat → DepT → Bool
 | 0, _ => true
 | n + 1, d => (!(decide (d.kind = 6) || decide (d.kind = 4)) || decide (2 ≤ d.args.length)) && d.args.all (woB n)
def B5 (m : Int → Int → List UInt8 → Int → List UInt8 → Bool × Int) (st : PoolT) : Nat → DepT → Int → Bool
 | 0, _, _ => false
 | n + 1, d, id => if d.kind = 1 then (Dz m st d false).any fun x => decide (id = x) else
  if d.kind = 6 then B5 m st n (nth d.args 0) id && !B5 m st n (nth d.args 1) id else !(d.args.any fun a => !B5 m st n a id)
theorem Ti {n : Nat} {d : DepT} (h : woB (n + 1) d = true) (hk : d.kind = 6 ∨ d.kind = 4) : 2 ≤ d.args.length := by
 unfold woB at h
 simp only [Bool.and_eq_true, Bool.or_eq_true, Bool.not_eq_true', Bool.or_eq_false_iff, decide_eq_true_eq, decide_eq_false_iff_not] at h
 rcases h.1 with h | h
 ·omega
 ·exact h
theorem Tk {n : Nat} {d : DepT} (h : woB (n + 1) d = true) {i : Nat} (hi : i < d.args.length) : woB n (nth d.args i) = true := by
 unfold woB at h
 simp only [Bool.and_eq_true, List.all_eq_true] at h
 exact h.2 _ (by rw [Gd hi]; exact List.getElem_mem hi)
theorem Z0 (g : DepT → AV) (q : DepT → Bool) (l : List DepT) : Imp (.row 1 ((l.map g).map AV.clo).length (fun i => ((l.map g).map AV.clo).getD i Bh)) (Ah 1 Fy (l.map fun a => (g a, q a))) := by
 have e : (l.map g).map AV.clo = (l.map fun a => (g a, q a)).map Fy := by rw [List.map_map, List.map_map]; rfl
 rw [e]; exact Imp.list (f := Fy) (List.length_map _)
theorem N8 {α β : Type} [Inhabited α] [Inhabited β] {g : α → β} {l : List α} {i : Nat} (h : i < l.length) : nth (l.map g) i = g (nth l i) := by simp [nth, h]
theorem Q0q (m : Int → Int → List UInt8 → Int → List UInt8 → Bool × Int) (hM : G2 m) (st : PoolT) (hi : IdxOk st) (id : Int) : ∀ (n : Nat) (d : DepT), d.size ≤ n → d.size ≤ 4194304 → woB n d = true → FunV Tryz.prog (Bx m st n d) [.int .i64 id] (.bool (B5 m st n d id)) := by
 intro n
 induction n with
 | zero => intro d h; have := Ee d; omega
 | succ n ih =>
  intro d h hd hw
  have hsa := Ee d
  have hal := Ds d.args
  have hf : ∀ i, i < (d.args.map fun a => (Bx m st n a, B5 m st n a id)).length → FunV Tryz.prog (nth (d.args.map fun a => (Bx m st n a, B5 m st n a id)) i).1 [.int .i64 id] (.bool (nth (d.args.map fun a => (Bx m st n a, B5 m st n a id)) i).2) := by
   intro i hj
   have hj : i < d.args.length := by simpa using hj
   rw [N8 hj]
   have h1 := Fi hj
   exact ih _ (by omega) (by omega) (Tk hw hj)
  by_cases h1 : d.kind = 1
  ·rw [Q0t h1]
   have e : B5 m st (n + 1) d id = (Dz m st d false).any fun x => decide (id = x) := by unfold B5; rw [if_pos h1]
   rw [e]
   exact FunV.of (by exact Q9i) (X1c (Dz m st d false) id (Q5l hi))
  ·by_cases h6 : d.kind = 6
   ·have h2 := Ti hw (.inl h6)
    rw [Q0s h6]
    have e : B5 m st (n + 1) d id = ((nth (d.args.map fun a => (Bx m st n a, B5 m st n a id)) 0).2 && !(nth (d.args.map fun a => (Bx m st n a, B5 m st n a id)) 1).2) := by
     rw [N8 (g := fun a => (Bx m st n a, B5 m st n a id)) (l := d.args) (i := 0) (by omega), N8 (g := fun a => (Bx m st n a, B5 m st n a id)) (l := d.args) (i := 1) (by omega)]
     conv => lhs; unfold B5
     rw [if_neg h1, if_pos h6]
    rw [e]
    exact FunV.of (by exact Q9h) ((X1b (d.args.map fun a => (Bx m st n a, B5 m st n a id)) id (by simpa using h2) hf).of_args (ImpL.cons Imp.refl (ImpL.cons (Imp.fp (Imp.aggs (ImpL.cons (Z0 _ _ _) ImpL.nil))) ImpL.nil)))
   ·rw [Q0u h1 h6]
    have e : B5 m st (n + 1) d id = !((d.args.map fun a => (Bx m st n a, B5 m st n a id)).any fun q => !q.2) := by
     rw [List.any_map]
     conv => lhs; unfold B5
     rw [if_neg h1, if_neg h6]; rfl
    rw [e]
    exact FunV.of (by exact Q9g) ((X09 (d.args.map fun a => (Bx m st n a, B5 m st n a id)) id (by rw [List.length_map]; omega) hf).of_args (ImpL.cons Imp.refl (ImpL.cons (Imp.fp (Imp.aggs (ImpL.cons (Z0 _ _ _) ImpL.nil))) ImpL.nil)))
def B1 (m : Int → Int → List UInt8 → Int → List UInt8 → Bool × Int) (st : PoolT) (s : List Int) : Nat → DepT → Bool
 | 0, _ => false
 | n + 1, d => if d.kind = 2 then !(d.args.any fun a => !B1 m st s n a) else
  if d.kind = 3 then d.args.any fun a => B1 m st s n a else
  if d.kind = 4 then (if B1 m st s n (nth d.args 1) = true then B1 m st s n (nth d.args 0) else decide ((d.args.length : Int) < 3) || B1 m st s n (nth d.args 2)) else
  s.any fun id => B5 m st (n + 1) d id
end Sv
end Go.Proofs.YtlfjokcbkopfeaaGreatDoor
end
section
namespace Go.Proofs.YtlfjokcbkopfeaaGreatDoor
open Go Go.RowKit
namespace Sv
attribute [local irreducible] SW SO Bg
set_option maxHeartbeats 1000000
set_option maxRecDepth 100000
theorem Q7 {m : Int → Int → List UInt8 → Int → List UInt8 → Bool × Int} {st : PoolT} {s : List Int} {n : Nat} {d : DepT} (h : d.kind = 2) : B1 m st s (n + 1) d = !(d.args.any fun a => !B1 m st s n a) := by
 conv => lhs; unfold B1
 rw [if_pos h]
theorem Q5 {m : Int → Int → List UInt8 → Int → List UInt8 → Bool × Int} {st : PoolT} {s : List Int} {n : Nat} {d : DepT} (h : d.kind = 3) : B1 m st s (n + 1) d = d.args.any fun a => B1 m st s n a := by
 conv => lhs; unfold B1
 rw [if_neg (by omega), if_pos h]
theorem L6 {m : Int → Int → List UInt8 → Int → List UInt8 → Bool × Int} {st : PoolT} {s : List Int} {n : Nat} {d : DepT} (h : d.kind = 4) : B1 m st s (n + 1) d = if B1 m st s n (nth d.args 1) = true then B1 m st s n (nth d.args 0) else decide ((d.args.length : Int) < 3) || B1 m st s n (nth d.args 2) := by
 conv => lhs; unfold B1
 rw [if_neg (by omega), if_neg (by omega), if_pos h]
theorem Q6 {m : Int → Int → List UInt8 → Int → List UInt8 → Bool × Int} {st : PoolT} {s : List Int} {n : Nat} {d : DepT} (h2 : ¬ d.kind = 2) (h3 : ¬ d.kind = 3) (h4 : ¬ d.kind = 4) : B1 m st s (n + 1) d = s.any fun id => B5 m st (n + 1) d id := by
 conv => lhs; unfold B1
 rw [if_neg h2, if_neg h3, if_neg h4]
theorem Q5y (st : PoolT) (s : List Int) (a : DepT) (q : Bool) (h : FnV Tryz.prog 61 [(.fp (Cb st)), (.agg [(.int .i64 (a.kind)), (.str (a.name)), (.int .i64 (a.op)), (.str (a.evr)), (.row 5 a.args.length (depAt a.args))]), Bu s] (.bool q)) :
  FnV Tryz.prog 120 [(.agg [(.int .i64 a.kind), (.str a.name), (.int .i64 a.op), (.str a.evr), (.row 5 a.args.length (depAt a.args))]), (.fp (.agg [(.fp (Cb st))])), (.fp (.agg [(Bu s)]))] (.bool (!q)) := by
 refine Ba [.tmp 4] Tryz.func120 rfl Tryz.ntmps120 rfl rfl (fun B F hF => ?_)
 refine Ae [] [1, 2, 3] [(1, 3)] hk0 v0 c0 ?_
 refine Ae [] [4] [] (hk 3 Lb h <| hk0) v0 c0 ?_
 refine Ag ?_
 refine RK wR [(.bool (!q))] ?_
 exact Same.of_eq (by first | rfl | (simp only [Aj]; simp_all))
theorem Q5x (st : PoolT) (s : List Int) (a : DepT) (q : Bool) (h : FnV Tryz.prog 61 [(.fp (Cb st)), (.agg [(.int .i64 (a.kind)), (.str (a.name)), (.int .i64 (a.op)), (.str (a.evr)), (.row 5 a.args.length (depAt a.args))]), Bu s] (.bool q)) :
  FnV Tryz.prog 121 [(.agg [(.int .i64 a.kind), (.str a.name), (.int .i64 a.op), (.str a.evr), (.row 5 a.args.length (depAt a.args))]), (.fp (.agg [(.fp (Cb st))])), (.fp (.agg [(Bu s)]))] (.bool q) := by
 refine Ba [.tmp 4] Tryz.func121 rfl Tryz.ntmps121 rfl rfl (fun B F hF => ?_)
 refine Ae [] [1, 2, 3] [(1, 3)] hk0 v0 c0 ?_
 refine Ae [] [4] [] (hk 3 Lb h <| hk0) v0 c0 ?_
 refine Ag ?_
 refine RK wR [(.bool q)] ?_
 exact Same.of_eq (by first | rfl | (simp only [Aj]; simp_all))
theorem Q5s (m : Int → Int → List UInt8 → Int → List UInt8 → Bool × Int) (hM : G2 m) (st : PoolT) (hi : IdxOk st) (s : List Int) (hs : s.length ≤ 4611686018427387904) (n : Nat) (d : DepT) (hd : d.size ≤ 4194304) (hn : d.size ≤ n + 1) (hw : woB (n + 1) d = true) (ih : ∀ i, i < d.args.length → FnV Tryz.prog 61 [(.fp (Cb st)), (.agg [(.int .i64 ((nth d.args i).kind)), (.str ((nth d.args i).name)), (.int .i64 ((nth d.args i).op)), (.str ((nth d.args i).evr)), (.row 5 (nth d.args i).args.length (depAt (nth d.args i).args))]), Bu s] (.bool (B1 m st s n (nth d.args i)))) :
  FnV Tryz.prog 61 [(.fp (Cb st)), (.agg [(.int .i64 d.kind), (.str d.name), (.int .i64 d.op), (.str d.evr), (.row 5 d.args.length (depAt d.args))]), (Bu s)] (.bool (B1 m st s (n + 1) d)) := by
 have hda := Ee d
 have hal := Ds d.args
 refine Ba [.tmp 6] Tryz.func61 rfl Tryz.ntmps61 rfl rfl (fun B F hF => ?_)
 refine Ab ?_
 refine Ar ?_
 refine Ff 1 (.agg [(.int .i64 d.kind), (.str d.name), (.int .i64 d.op), (.str d.evr), (Ah 5 Az d.args)]) (by kernel_rfl) (Q9r d) ?_
 refine A2 0 [] [3, 4, 5] [(2, 4)] hk0 v0 c0 ?_
 refine Aa [] [3, 4, 5, 7] ?_
 refine Ab ?_
 refine Aa [] [3, 4, 5, 7, 10] ?_
 refine A3 ?_
 refine Aa [] [3, 4, 5, 7, 10, 11] ?_
 refine A8 (p := d.kind = 2) (by kernel_rfl) (fun c1 => ?_) (fun c1 => ?_)
 ·refine Ab ?_
  refine Ar ?_
  refine Bj 3 0 [] [14, 15] [] hk0 v0 c0 ?_
  refine Po (s' := [(14, (Ah 5 Az d.args)), (15, (.fn 120 [] [(.ptr 0 0), (.ptr 2 0)])), (16, (.bool (d.args.any fun a => !B1 m st s n a)))]) (al := [(Ah 5 Az d.args), (.fn 120 [] [(.ptr 0 0), (.ptr 2 0)])]) (al' := [(Ah 5 Az d.args), (.fn 120 [] [(.fp (.agg [(.fp (Cb st))])), (.fp (.agg [(Bu s)]))])]) (h' := []) (r := (.bool (d.args.any fun a => !B1 m st s n a))) (by kernel_rfl) (by exact Rv) (by kernel_rfl) (by kernel_rfl) ((Sa d.args (.fn 120 [] [.fp (.agg [.fp (Cb st)]), .fp (.agg [Bu s])]) (fun a => !B1 m st s n a) (by omega) (fun i hj => FunV.of (by exact Q89) (Q5y st s (nth d.args i) (B1 m st s n (nth d.args i)) (ih i hj)))).of_args (ImpL.cons Imp.refl (ImpL.cons (Imp.clo (by kernel_rfl)) ImpL.nil))) rfl (by kernel_rfl) ?_
  refine A2 4 [] [6] [] hk0 v0 c0 ?_
  refine Ag ?_
  refine RK wR [(.bool (!(d.args.any fun a => !B1 m st s n a)))] ?_
  exact Same.of_eq (by simp only [Aj]; rw [Q7 (by assumption)])
 ·refine Aa [] [3, 4, 5, 10, 18] ?_
  refine A8 (p := d.kind = 3) (by kernel_rfl) (fun c2 => ?_) (fun c2 => ?_)
  ·refine Ab ?_
   refine Ar ?_
   refine Bj 3 0 [] [21, 22] [] hk0 v0 c0 ?_
   refine Po (s' := [(21, (Ah 5 Az d.args)), (22, (.fn 121 [] [(.ptr 0 0), (.ptr 2 0)])), (23, (.bool (d.args.any fun a => B1 m st s n a)))]) (al := [(Ah 5 Az d.args), (.fn 121 [] [(.ptr 0 0), (.ptr 2 0)])]) (al' := [(Ah 5 Az d.args), (.fn 121 [] [(.fp (.agg [(.fp (Cb st))])), (.fp (.agg [(Bu s)]))])]) (h' := []) (r := (.bool (d.args.any fun a => B1 m st s n a))) (by kernel_rfl) (by exact Rv) (by kernel_rfl) (by kernel_rfl) ((Sa d.args (.fn 121 [] [.fp (.agg [.fp (Cb st)]), .fp (.agg [Bu s])]) (fun a => B1 m st s n a) (by omega) (fun i hj => FunV.of (by exact Q88) (Q5x st s (nth d.args i) (B1 m st s n (nth d.args i)) (ih i hj)))).of_args (ImpL.cons Imp.refl (ImpL.cons (Imp.clo (by kernel_rfl)) ImpL.nil))) rfl (by kernel_rfl) ?_
   refine A2 4 [] [6] [] hk0 v0 c0 ?_
   refine Ag ?_
   refine RK wR [(.bool (d.args.any fun a => B1 m st s n a))] ?_
   exact Same.of_eq (by simp only [Aj]; rw [Q5 (by assumption)])
  ·refine Aa [] [3, 4, 5, 24] ?_
   refine A8 (p := d.kind = 4) (by kernel_rfl) (fun c3 => ?_) (fun c3 => ?_)
   ·have h2 := Ti hw (.inr c3)
    refine Ab ?_
    refine Cg [] [3, 4, 5, 32] [] (hk 6 Lb (ih 1 (by omega)) <| hk0) v0 (cc 3 (p := (0 ≤ (1 : Int) ∧ 1 < d.args.length)) (by omega) <| c0) ?_
    refine A9 (q := B1 m st s n (nth d.args 1)) (by kernel_rfl) (fun c4 => ?_) (fun c4 => ?_)
    ·try simp only [Al] at c4
     refine Cg [] [6] [] (hk 6 Lb (ih 0 (by omega)) <| hk0) v0 (cc 3 (p := (0 ≤ (0 : Int) ∧ 0 < d.args.length)) (by omega) <| c0) ?_
     refine Ag ?_
     refine RK wR [(.bool (B1 m st s n (nth d.args 0)))] ?_
     exact Same.of_eq (by simp only [Aj]; rw [L6 (by assumption), if_pos (by assumption)])
    ·try simp only [Al] at c4
     refine Ai ?_
     refine Cg (CS := [(7, ((!(decide ((d.args.length : Int) < 3))) = true → (!(decide ((d.args.length : Int) < 3))) = true)), (8, ((!(decide ((d.args.length : Int) < 3))) = true → ((!(decide ((d.args.length : Int) < 3))) = true) ∧ (0 ≤ (2 : Int) ∧ 2 < d.args.length))), (9, ((!(decide ((d.args.length : Int) < 3))) = true → (!(decide ((d.args.length : Int) < 3))) = true)), (11, (!(decide ((d.args.length : Int) < 3))) = true → (!(decide ((d.args.length : Int) < 3))) = true ∧ (!(decide ((d.args.length : Int) < 3))) = true ∧ (!(decide ((d.args.length : Int) < 3))) = true), (12, ((decide ((d.args.length : Int) < 3)) = false → (!(decide ((d.args.length : Int) < 3))) = true))]) [45, 46, 47, 48, 49, 50] [6] [] (hkg 11 (!(decide ((d.args.length : Int) < 3))) Lb (fun cg => ih 2 (by simp at cg; omega)) <| hk0) v0 (by refine cc _ ?_ <| cc _ ?_ <| cc _ ?_ <| cc _ ?_ <| cc _ ?_ c0 <;> first | omega | (simp; omega) | (simp; done) | (intros; simp_all; omega) | (intros; simp_all; done)) ?_
     refine Ag ?_
     refine RK wR [(.bool ((decide ((d.args.length : Int) < 3)) || (B1 m st s n (nth d.args 2))))] ?_
     exact Same.of_eq (by simp only [Aj]; rw [L6 (by assumption), if_neg (by simp_all)])
   ·refine Ai ?_
    refine Cg [] [6] [] (hk 3 (al := [(.fp (Cb st)), (.agg [(.int .i64 d.kind), (.str d.name), (.int .i64 d.op), (.str d.evr), (Ah 5 Az d.args)])]) Ry ((Q0p m hM st hi (n + 1) d hn hd).of_args (ImpL.cons Imp.refl (ImpL.cons (Zs d) ImpL.nil))) <| hk 4 Yr (Xj s (Bx m st (n + 1) d) (fun id => B5 m st (n + 1) d id) hs (fun i hj => Q0q m hM st hi (nth s i) (n + 1) d hn hd hw)) <| hk0) v0 c0 ?_
    refine Ag ?_
    refine RK wR [(.bool (s.any fun id => B5 m st (n + 1) d id))] ?_
    exact Same.of_eq (by simp only [Aj]; rw [Q6 (by assumption) (by assumption) (by assumption)])
theorem Q5t (m : Int → Int → List UInt8 → Int → List UInt8 → Bool × Int) (hM : G2 m) (st : PoolT) (hi : IdxOk st) (s : List Int) (hs : s.length ≤ 4611686018427387904) : ∀ (n : Nat) (d : DepT), d.size ≤ n → d.size ≤ 4194304 → woB n d = true → FnV Tryz.prog 61 [(.fp (Cb st)), (.agg [(.int .i64 (d.kind)), (.str (d.name)), (.int .i64 (d.op)), (.str (d.evr)), (.row 5 d.args.length (depAt d.args))]), Bu s] (.bool (B1 m st s n d)) := by
 intro n
 induction n with
 | zero => intro d h; have := Ee d; omega
 | succ n ih => exact fun d h hd hw => Q5s m hM st hi s hs n d hd h hw fun i hj => ih _ (by have h1 := Fi hj; omega) (by have h1 := Fi hj; omega) (Tk hw hj)
end Sv
end Go.Proofs.YtlfjokcbkopfeaaGreatDoor
end
section
namespace Go.Proofs.YtlfjokcbkopfeaaGreatDoor
open Go Go.RowKit
namespace Sv
attribute [local irreducible] SW SO Bg
set_option maxHeartbeats 1000000
set_option maxRecDepth 100000
theorem Rz : As Tryz.prog 53 := Ax Tryz.func53 (by kernel_rfl) rfl
theorem R5 : As Tryz.prog 15 := Ax Tryz.func15 (by kernel_rfl) rfl
theorem Q70 : As Tryz.prog 58 := Ax Tryz.func58 (by kernel_rfl) rfl
theorem Q7z : As Tryz.prog 60 := Ax Tryz.func60 (by kernel_rfl) rfl
theorem Tj : ∀ (n : Nat) (d : DepT), Ca d = true → woB n d = true := by
 intro n
 induction n with
 | zero => exact fun _ _ => rfl
 | succ n ih =>
  intro d h
  obtain ⟨k, nm, op, ev, args⟩ := d
  have all : ∀ (k : Int) (l : List DepT), argsForm k l = true → l.all (woB n) = true := by
   intro k l
   induction l with
   | nil => exact fun _ => rfl
   | cons a l ihl =>
    intro q
    simp only [argsForm, Bool.and_eq_true] at q
    rw [List.all_cons, ih a q.2.1, ihl q.2.2]; rfl
  unfold Ca at h
  unfold woB
  by_cases hk : k = 1
  ·rw [if_pos hk] at h
   have h0 : args.length = 0 := by
    by_cases q : Bf nm = true ∧ 0 ≤ op ∧ op ≤ 7 ∧ args.length = 0
    ·exact q.2.2.2
    ·rw [Rm q] at h; cases h
   obtain rfl := List.length_eq_zero_iff.1 h0
   subst hk
   rfl
  ·rw [if_neg hk] at h
   simp only [Bool.and_eq_true, Bool.not_eq_true', Fa, decide_eq_false_iff_not] at h
   have h2 : 2 ≤ args.length := by
    have := h.1
    simp only [not_or] at this
    omega
   show ((!(decide (k = 6) || decide (k = 4)) || decide (2 ≤ args.length)) && args.all (woB n)) = true
   rw [decide_eq_true h2, Bool.or_true, all k args h.2]; rfl
theorem Le {d : DepT} (h : Bq d = 0) : Ca d = true := by
 unfold Bq at h
 cases hq : Ca d with
 | true => rfl
 | false => rw [hq] at h; simp at h
def Cy (d : DepT) (q : Bool) : Int := if Bq d = 0 then (if q = true then 0 else 70) else Bq d
def Cd (m : Int → Int → List UInt8 → Int → List UInt8 → Bool × Int) (st : PoolT) (d : DepT) (s : List Int) : Bool × Int :=
 if Bq d = 0 then (if s.any (fun id => decide (id < 0) || decide ((st.all.length : Int) ≤ id)) = true then (false, 69) else (B1 m st s d.size d, 0)) else (false, Bq d)
theorem Qk (st : PoolT) (d : DepT) (a : AV) (q : Bool) (hd : d.size ≤ 4194304) (ha : FunV Tryz.prog a [.int .i64 d.kind] (.bool q)) :
  FnV Tryz.prog 53 [(.fp (Cb st)), (.agg [(.int .i64 d.kind), (.str d.name), (.int .i64 d.op), (.str d.evr), (.row 5 d.args.length (depAt d.args))]), (.clo a)] (.int .i64 (Cy d q)) := by
 refine Ba [.tmp 6] Tryz.func53 rfl Tryz.ntmps53 rfl rfl (fun B F hF => ?_)
 refine Ae [] [0, 2, 4] [(1, 4)] hk0 v0 c0 ?_
 refine Ab ?_
 refine Aa [] [2, 4, 9] ?_
 refine Db (by kernel_rfl) ?_
 refine Ai ?_
 refine Ab ?_
 refine Ae [] [2, 4, 7] [] (hk 1 Ow (S9 d hd) <| hk0) v0 c0 ?_
 refine Aa [] [2, 4, 7, 13] ?_
 refine Cj (p := (Bq d) = 0) (by kernel_rfl) (fun c1 => ?_) (fun c1 => ?_)
 ·refine Aa [] [6] ?_
  refine Ag ?_
  refine RK wR [(.int .i64 (Bq d))] ?_
  exact Same.of_eq (by simp only [Aj]; unfold Cy; rw [if_neg (by assumption)])
 ·refine Ai ?_
  refine Ab ?_
  refine Ab ?_
  refine Ar ?_
  refine Bj 3 0 [] [15, 17] [] hk0 v0 c0 ?_
  refine F7 (s' := [(15, (.clo a)), (17, (.int .i64 d.kind)), (18, (.bool q))]) (a := (.clo a)) (al := [(.int .i64 d.kind)]) (r := (.bool q)) (by kernel_rfl) (by kernel_rfl) (by kernel_rfl) (by kernel_rfl) (by kernel_rfl) ha.clo (by kernel_rfl) ?_
  refine A2 4 [] [19] [] hk0 v0 c0 ?_
  refine A9 (q := !q) (by kernel_rfl) (fun c2 => ?_) (fun c2 => ?_)
  ·try simp only [Al] at c2
   refine Aa [] [6] ?_
   refine Ag ?_
   refine RK wR [(.int .i64 70)] ?_
   exact Same.of_eq (by simp only [Aj]; unfold Cy; rw [if_pos (by omega), if_neg (by simp_all)])
  ·try simp only [Al] at c2
   refine Ai ?_
   refine Aa [] [6] ?_
   refine Ag ?_
   refine RK wR [(.int .i64 0)] ?_
   exact Same.of_eq (by simp only [Aj]; unfold Cy; rw [if_pos (by omega), if_pos (by simp_all)])
theorem Q5v (k : Int) :
  FnV Tryz.prog 58 [(.int .i64 k)] (.bool true) := by
 refine Ba [.tmp 2] Tryz.func58 rfl Tryz.ntmps58 rfl rfl (fun B F hF => ?_)
 refine Aa [] [] ?_
 refine Aa [] [2] ?_
 refine Ag ?_
 refine RK wR [(.bool true)] ?_
 exact Same.of_eq (by first | rfl | (simp only [Aj]; simp_all))
theorem Q5w (st : PoolT) (id : Int) :
  FnV Tryz.prog 60 [(.int .i64 id), (.fp (.agg [(.fp (Cb st))]))] (.bool (decide (id < 0) || decide ((st.all.length : Int) ≤ id))) := by
 refine Ba [.tmp 3] Tryz.func60 rfl Tryz.ntmps60 rfl rfl (fun B F hF => ?_)
 refine Aa [] [0, 1] ?_
 obtain ⟨b1, hb1⟩ : ∃ b, b = (decide (id < 0)) := ⟨_, rfl⟩
 refine Ae (CS := [(5, ((!b1) = true → (!b1) = true)), (6, ((!b1) = true → (!b1) = true)), (7, ((!b1) = true → (!b1) = true)), (8, ((!b1) = true → (!b1) = true ∧ (!b1) = true)), (9, (b1 = false → (!b1) = true))]) [7, 8, 9, 10, 11, 12] [3] [] hk0 (vk 3 6 (a := .bool (decide (id < 0))) (b := .bool b1) (Imp.of_eq (by rw [hb1])) <| v0) (by refine cc _ ?_ <| cc _ ?_ <| cc _ ?_ <| cc _ ?_ <| cc _ ?_ c0 <;> simp) ?_
 refine Ag ?_
 refine RK wR [(.bool (b1 || (decide ((st.all.length : Int) ≤ id))))] ?_
 subst hb1
 exact Same.of_eq (by first | rfl | (simp only [Aj]; simp_all))
theorem S8 (m : Int → Int → List UInt8 → Int → List UInt8 → Bool × Int) (hM : G2 m) (st : PoolT) (hi : IdxOk st) (d : DepT) (s : List Int) (hd : d.size ≤ 4194304) (hs : s.length ≤ 4611686018427387904) :
  FnV Tryz.prog 15 [(.fp (Cb st)), (.agg [(.int .i64 d.kind), (.str d.name), (.int .i64 d.op), (.str d.evr), (.row 5 d.args.length (depAt d.args))]), (Bu s)] (.tup [.bool (Cd m st d s).1, .int .i64 (Cd m st d s).2]) := by
 refine Ba [.tmp 6, .tmp 7] Tryz.func15 rfl Tryz.ntmps15 rfl rfl (fun B F hF => ?_)
 refine Ae [] [2, 3, 4] [(2, 4)] hk0 v0 c0 ?_
 refine Ab ?_
 refine Ae [] [2, 3, 4, 8] [] (hk 2 (al := [(.fp (Cb st)), (.agg [(.int .i64 d.kind), (.str d.name), (.int .i64 d.op), (.str d.evr), (.row 5 d.args.length (depAt d.args))]), (.fn 58 [] [])]) Rz ((Qk st d (.fn 58 [] []) true hd (FunV.of (by exact Q70) (Q5v d.kind))).of_args (ImpL.cons Imp.refl (ImpL.cons Imp.refl (ImpL.cons (Imp.clo rfl) ImpL.nil)))) <| hk0) v0 c0 ?_
 refine Aa [] [2, 3, 4, 8, 13] ?_
 refine Cj (p := (Cy d true) = 0) (by kernel_rfl) (fun c1 => ?_) (fun c1 => ?_)
 ·refine Aa [] [6, 7] ?_
  refine Ag ?_
  refine RK wR [(.bool false), (.int .i64 (Cy d true))] ?_
  have hc : ¬ Bq d = 0 := by
   intro q
   have hr : Cy d true = 0 := by unfold Cy; rw [if_pos q, if_pos rfl]
   omega
  exact Same.of_eq (by simp only [Aj]; unfold Cd Cy; rw [if_neg hc, if_neg hc])
 ·have hc0 : Bq d = 0 := by
   by_cases q : Bq d = 0
   ·exact q
   ·have hr : Cy d true = Bq d := by unfold Cy; rw [if_neg q]
    omega
  refine Ai ?_
  refine Ab ?_
  refine Ab ?_
  refine Ar ?_
  refine Bj 2 0 [] [2, 3, 4, 15, 16] [] hk0 v0 c0 ?_
  refine Po (s' := [(2, (Bu s)), (3, (.ptr 0 0)), (4, (.fp (.agg [(.int .i64 d.kind), (.str d.name), (.int .i64 d.op), (.str d.evr), (.row 5 d.args.length (depAt d.args))]))), (15, (Bu s)), (16, (.fn 60 [] [(.ptr 0 0)])), (17, (.bool (s.any fun id => decide (id < 0) || decide ((st.all.length : Int) ≤ id))))]) (al := [(Bu s), (.fn 60 [] [(.ptr 0 0)])]) (al' := [(Bu s), (.fn 60 [] [(.fp (.agg [(.fp (Cb st))]))])]) (h' := []) (r := (.bool (s.any fun id => decide (id < 0) || decide ((st.all.length : Int) ≤ id)))) (by kernel_rfl) (by exact Yr) (by kernel_rfl) (by kernel_rfl) ((Xj s (.fn 60 [] [.fp (.agg [.fp (Cb st)])]) (fun id => decide (id < 0) || decide ((st.all.length : Int) ≤ id)) hs (fun i hj => FunV.of (by exact Q7z) (Q5w st (nth s i)))).of_args (ImpL.cons Imp.refl (ImpL.cons (Imp.clo (by kernel_rfl)) ImpL.nil))) rfl (by kernel_rfl) ?_
  refine Be ?_
  refine A9 (q := s.any fun id => decide (id < 0) || decide ((st.all.length : Int) ≤ id)) (by kernel_rfl) (fun c2 => ?_) (fun c2 => ?_)
  ·try simp only [Al] at c2
   refine Aa [] [6, 7] ?_
   refine Ag ?_
   refine RK wR [(.bool false), (.int .i64 69)] ?_
   exact Same.of_eq (by simp only [Aj]; unfold Cd; rw [if_pos hc0, if_pos (by assumption)])
  ·try simp only [Al] at c2
   refine Ai ?_
   refine Ae [] [6, 7] [] (hk 3 Lb (Q5t m hM st hi s hs d.size d (Nat.le_refl _) hd (Tj _ _ (Le hc0))) <| hk0) v0 c0 ?_
   refine Ag ?_
   refine RK wR [(.bool (B1 m st s d.size d)), (.int .i64 0)] ?_
   exact Same.of_eq (by simp only [Aj]; unfold Cd; rw [if_pos hc0, if_neg (by simp_all)])
end Sv
end Go.Proofs.YtlfjokcbkopfeaaGreatDoor
end
section
namespace Go.Proofs.YtlfjokcbkopfeaaGreatDoor
open Go Go.RowKit
namespace Sv
attribute [local irreducible] SW SO Bg
set_option maxHeartbeats 1000000
set_option maxRecDepth 100000
theorem Zh : As Tryz.prog 13 := Ax Tryz.func13 (by kernel_rfl) rfl
theorem Q80 : As Tryz.prog 14 := Ax Tryz.func14 (by kernel_rfl) rfl
theorem Q71 : As Tryz.prog 56 := Ax Tryz.func56 (by kernel_rfl) rfl
def Du (k : Int) : Bool := decide (k = 1) || (decide (k = 5) || decide (k = 6))
def Cv (m : Int → Int → List UInt8 → Int → List UInt8 → Bool × Int) (st : PoolT) (d : DepT) (i : Nat) : List Int := ((List.range i).filter fun (k : Nat) => B5 m st d.size d (k : Int)).map fun (k : Nat) => (k : Int)
theorem Ps {m : Int → Int → List UInt8 → Int → List UInt8 → Bool × Int} {st : PoolT} {d : DepT} {i : Nat} : (Cv m st d i).length ≤ i := by
 unfold Cv
 rw [List.length_map]
 exact Nat.le_trans (List.length_filter_le _ _) (by simp)
theorem Tl {m : Int → Int → List UInt8 → Int → List UInt8 → Bool × Int} {st : PoolT} {d : DepT} {i : Nat} (h : B5 m st d.size d (i : Int) = true) : (Cv m st d (i + 1)).map (AV.int .i64) = (Cv m st d i).map (AV.int .i64) ++ [.int .i64 (i : Int)] := by
 unfold Cv
 rw [List.range_succ, List.filter_append, List.map_append, List.map_append]
 simp [h]
theorem Tm {m : Int → Int → List UInt8 → Int → List UInt8 → Bool × Int} {st : PoolT} {d : DepT} {i : Nat} (h : B5 m st d.size d (i : Int) = false) : Cv m st d (i + 1) = Cv m st d i := by
 unfold Cv
 rw [List.range_succ, List.filter_append, List.map_append]
 simp [h]
def Dl (m : Int → Int → List UInt8 → Int → List UInt8 → Bool × Int) (st : PoolT) (d : DepT) : List Int × Int := if Cy d (Du d.kind) = 0 then (Cv m st d st.all.length, 0) else ([], Cy d (Du d.kind))
def Di (m : Int → Int → List UInt8 → Int → List UInt8 → Bool × Int) (st : PoolT) (d : DepT) : List Int × Int := if Cy d (decide (d.kind = 1)) = 0 then (Dz m st d true, 0) else ([], Cy d (decide (d.kind = 1)))
theorem Q5a (k : Int) :
  FnV Tryz.prog 56 [(.int .i64 k)] (.bool (decide (k = 1))) := by
 refine Ba [.tmp 2] Tryz.func56 rfl Tryz.ntmps56 rfl rfl (fun B F hF => ?_)
 refine Aa [] [0] ?_
 refine Aa [] [2] ?_
 refine Ag ?_
 refine RK wR [(.bool (decide (k = 1)))] ?_
 exact Same.of_eq (by first | rfl | (simp only [Aj]; simp_all))
theorem X23 (m : Int → Int → List UInt8 → Int → List UInt8 → Bool × Int) (hM : G2 m) (st : PoolT) (hi : IdxOk st) (d : DepT) (hd : d.size ≤ 4194304) :
  FnV Tryz.prog 14 [(.fp (Cb st)), (.agg [(.int .i64 d.kind), (.str d.name), (.int .i64 d.op), (.str d.evr), (.row 5 d.args.length (depAt d.args))])] (.tup [Bu (Di m st d).1, .int .i64 (Di m st d).2]) := by
 refine Ba [.tmp 4, .tmp 5] Tryz.func14 rfl Tryz.ntmps14 rfl rfl (fun B F hF => ?_)
 refine Ae [] [0, 3] [(1, 3)] hk0 v0 c0 ?_
 refine Ab ?_
 refine Ae [] [0, 3, 6] [] (hk 2 (al := [(.fp (Cb st)), (.agg [(.int .i64 d.kind), (.str d.name), (.int .i64 d.op), (.str d.evr), (.row 5 d.args.length (depAt d.args))]), (.fn 56 [] [])]) Rz ((Qk st d (.fn 56 [] []) (decide (d.kind = 1)) hd (FunV.of (by exact Q71) (Q5a d.kind))).of_args (ImpL.cons Imp.refl (ImpL.cons Imp.refl (ImpL.cons (Imp.clo rfl) ImpL.nil)))) <| hk0) v0 c0 ?_
 refine Aa [] [0, 3, 6, 11] ?_
 refine Cj (p := (Cy d (decide (d.kind = 1))) = 0) (by kernel_rfl) (fun c1 => ?_) (fun c1 => ?_)
 ·refine Aa [] [4, 5] ?_
  refine Ag ?_
  refine RK wR [.nils, (.int .i64 (Cy d (decide (d.kind = 1))))] ?_
  simp only [Aj]
  rw [show Di m st d = ([], Cy d (decide (d.kind = 1))) from by unfold Di; rw [if_neg (by assumption)]]
  exact (Imp.tups (ImpL.cons Imp.nil (ImpL.cons Imp.refl ImpL.nil))).same
 ·refine Ai ?_
  refine Ae [] [4, 5] [] (hk 2 Ys (Wx m hM st hi d true hd) <| hk0) v0 c0 ?_
  refine Ag ?_
  refine RK wR [(Bu (Dz m st d true)), (.int .i64 0)] ?_
  exact Same.of_eq (by simp only [Aj]; unfold Di; rw [if_pos (by omega)])
theorem Q04 (m : Int → Int → List UInt8 → Int → List UInt8 → Bool × Int) (hM : G2 m) (st : PoolT) (hi : IdxOk st) (d : DepT) (hd : d.size ≤ 4194304) :
  FnV Tryz.prog 13 [(.fp (Cb st)), (.agg [(.int .i64 d.kind), (.str d.name), (.int .i64 d.op), (.str d.evr), (.row 5 d.args.length (depAt d.args))])] (.tup [Bu (Dl m st d).1, .int .i64 (Dl m st d).2]) := by
 have h200 := hi.1
 refine Ba [.tmp 4, .tmp 5] Tryz.func13 rfl Tryz.ntmps13 rfl rfl (fun B F hF => ?_)
 refine Ae [] [0, 3] [(1, 3)] hk0 v0 c0 ?_
 refine Ab ?_
 refine Ae [] [0, 3, 6] [] (hk 2 (al := [(.fp (Cb st)), (.agg [(.int .i64 d.kind), (.str d.name), (.int .i64 d.op), (.str d.evr), (.row 5 d.args.length (depAt d.args))]), (.fn 54 [] [])]) Rz ((Qk st d (.fn 54 [] []) (Du d.kind) hd (FunV.of (by exact Q72) (Q2r d.kind))).of_args (ImpL.cons Imp.refl (ImpL.cons Imp.refl (ImpL.cons (Imp.clo rfl) ImpL.nil)))) <| hk0) v0 c0 ?_
 refine Aa [] [0, 3, 6, 14] ?_
 refine Cj (p := (Cy d (Du d.kind)) = 0) (by kernel_rfl) (fun c1 => ?_) (fun c1 => ?_)
 ·refine Aa [] [4, 5] ?_
  refine Ag ?_
  refine RK wR [.nils, (.int .i64 (Cy d (Du d.kind)))] ?_
  simp only [Aj]
  rw [show Dl m st d = ([], Cy d (Du d.kind)) from by unfold Dl; rw [if_neg (by assumption)]]
  exact (Imp.tups (ImpL.cons Imp.nil (ImpL.cons Imp.refl ImpL.nil))).same
 ·have hc0 : Bq d = 0 := by
   by_cases q : Bq d = 0
   ·exact q
   ·have hr : Cy d (Du d.kind) = Bq d := by unfold Cy; rw [if_neg q]
    omega
  refine Ai ?_
  refine Ae [] [0, 7] [] (hk 2 Ry (Q0p m hM st hi d.size d (Nat.le_refl _) hd) <| hk0) v0 c0 ?_
  refine Aa [] [0, 7, 8] ?_
  refine Ab ?_
  refine Aa [] [7, 8, 22, 23] ?_
  refine A3 ?_
  refine Pk 3 1 8 (y := ⟨[(7, (.clo (Bx m st d.size d))), (8, (.own 1)), (22, (.int .i64 ((st.all.length : Int)))), (23, (.int .i64 0))], [(1, (.grow [] 3 1))], 2⟩) (by kernel_rfl) (by kernel_rfl) ?_
  refine Bs (fun g y => ∃ (i : Nat), i ≤ st.all.length ∧ y = ⟨[(7, (.clo (Bx m st d.size d))), (8, (.own 1)), (22, (.int .i64 ((st.all.length : Int)))), (23, (.int .i64 ((i : Int))))], [(1, (.grow ((Cv m st d i).map (AV.int .i64)) 3 1))], 2⟩ ∧ g = st.all.length - i) [7, 8, 22, 23] 2 _ (by omega) ⟨0, (by omega), (by kernel_rfl), rfl⟩ ?_
  rintro g1 y1 ⟨i, f1_1, rfl, rfl⟩
  have hwl := Ps (m := m) (st := st) (d := d) (i := i)
  have hwm : ((Cv m st d i).map (AV.int .i64)).length = (Cv m st d i).length := List.length_map _
  refine Aa [] [7, 8, 22, 23, 24] ?_
  refine Ab ?_
  refine A8 (p := (i : Int) < (st.all.length : Int)) (by kernel_rfl) (fun c2 => ?_) (fun c2 => ?_)
  ·refine Ai ?_
   refine Ab ?_
   refine A3 ?_
   refine Aa [] [7, 8, 9, 22, 23] ?_
   refine Ab ?_
   refine Ar ?_
   refine Bj 2 0 [] [7, 8, 9, 22, 23, 26, 27] [] hk0 v0 c0 ?_
   refine F7 (s' := [(7, (.clo (Bx m st d.size d))), (8, (.own 1)), (9, (.int .i64 ((i : Int)))), (22, (.int .i64 ((st.all.length : Int)))), (23, (.int .i64 ((i : Int)))), (26, (.clo (Bx m st d.size d))), (27, (.int .i64 ((i : Int)))), (28, (.bool (B5 m st d.size d (i : Int))))]) (a := (.clo (Bx m st d.size d))) (al := [(.int .i64 ((i : Int)))]) (r := (.bool (B5 m st d.size d (i : Int)))) (by kernel_rfl) (by kernel_rfl) (by kernel_rfl) (by kernel_rfl) (by kernel_rfl) ((Q0q m hM st hi (i : Int) d.size d (Nat.le_refl _) hd (Tj _ _ (Le hc0))).clo) (by kernel_rfl) ?_
   refine Be ?_
   refine A9 (q := B5 m st d.size d (i : Int)) (by kernel_rfl) (fun c3 => ?_) (fun c3 => ?_)
   ·try simp only [Al] at c3
    refine Ar ?_
    refine A2 0 [] [7, 8, 22, 23] [] hk0 v0 (cc 3 (p := ((((Cv m st d i).map (AV.int .i64)).length + 1) * 8 ≤ 140737488355328)) (by omega) <| c0) ?_
    refine Ar ?_
    refine A2 0 [] [7, 8, 22, 23] [] hk0 v0 (cc 0 (p := (-9223372036854775808 ≤ (i : Int) + 1 ∧ (i : Int) + 1 ≤ 9223372036854775807)) (by omega) <| c0) ?_
    refine ⟨by kernel_rfl, _, ?_, i + 1, ?_, (Eq.trans (b := (⟨[(7, (.clo (Bx m st d.size d))), (8, (.own 1)), (22, (.int .i64 ((st.all.length : Int)))), (23, (.int .i64 ((i : Int) + 1)))], [(1, (.grow (((Cv m st d i).map (AV.int .i64)) ++ ([(.int .i64 ((i : Int)))] : List AV)) 3 1))], 2⟩ : St)) (by kernel_rfl) (by rw [Tl (by assumption)] <;> kernel_rfl)), rfl⟩
    ·omega
    ·omega
   ·try simp only [Al] at c3
    refine Ai ?_
    refine Ar ?_
    refine A2 0 [] [7, 8, 22, 23] [] hk0 v0 (cc 0 (p := (-9223372036854775808 ≤ (i : Int) + 1 ∧ (i : Int) + 1 ≤ 9223372036854775807)) (by omega) <| c0) ?_
    refine ⟨by kernel_rfl, _, ?_, i + 1, ?_, (Eq.trans (b := (⟨[(7, (.clo (Bx m st d.size d))), (8, (.own 1)), (22, (.int .i64 ((st.all.length : Int)))), (23, (.int .i64 ((i : Int) + 1)))], [(1, (.grow ((Cv m st d i).map (AV.int .i64)) 3 1))], 2⟩ : St)) (by kernel_rfl) (by rw [Tm (by assumption)] <;> kernel_rfl)), rfl⟩
    ·omega
    ·omega
  ·refine Bl ?_
   refine Aa [] [4, 5] ?_
   refine Ag ?_
   refine RK wR [(.row 1 ((Cv m st d i).map (AV.int .i64)).length (fun ix => ((Cv m st d i).map (AV.int .i64)).getD ix Bh)), (.int .i64 0)] ?_
   rw [show i = st.all.length from by omega]
   simp only [Aj]
   rw [show Dl m st d = (Cv m st d st.all.length, 0) from by unfold Dl; rw [if_pos (by omega)]]
   exact (Imp.tups (ImpL.cons (Imp.list (f := AV.int .i64) (List.length_map _)) (ImpL.cons Imp.refl ImpL.nil))).same
end Sv
end Go.Proofs.YtlfjokcbkopfeaaGreatDoor
end
section
namespace Go.Proofs.YtlfjokcbkopfeaaGreatDoor
open Go Go.RowKit
namespace Sv
attribute [local irreducible] SW SO Bg
set_option maxHeartbeats 1000000
set_option maxRecDepth 100000
theorem R3 : As Tryz.prog 194 := Ax Tryz.func194 (by kernel_rfl) rfl
theorem R6 : As Tryz.prog 130 := Ax Tryz.func130 (by kernel_rfl) rfl
theorem Y5 : As Tryz.prog 216 := Ax Tryz.func216 (by kernel_rfl) rfl
theorem O1 : As Tryz.prog 136 := Ax Tryz.func136 (by kernel_rfl) rfl
theorem Za : As Tryz.prog 195 := Ax Tryz.func195 (by kernel_rfl) rfl
theorem R4 : As Tryz.prog 163 := Ax Tryz.func163 (by kernel_rfl) rfl
theorem Zf : As Tryz.prog 164 := Ax Tryz.func164 (by kernel_rfl) rfl
def Co (a b : Int) : Int := if a < b then -1 else if b < a then 1 else 0
def orI (a b : Int) : Int := if a = 0 then b else a
def Ci (a b : List UInt8) : Int := orI (Co ((Lib.trimLeftB a 48).length : Int) ((Lib.trimLeftB b 48).length : Int)) (Lib.compareBytes (Lib.trimLeftB a 48) (Lib.trimLeftB b 48))
theorem M7 {s : List UInt8} (h : Br s ≠ 0) : 1 ≤ s.length := by
 cases s with
 | nil => exact absurd (by unfold Br; rw [if_pos (.inl rfl)]) h
 | cons a r => simp
theorem Kh {s : List UInt8} (h : Br s = 0) : s.length = 0 ∨ 1 ≤ Ap Ao s := by
 cases s with
 | nil => exact .inl rfl
 | cons a r =>
  right
  unfold Br at h
  have hb : Af (a :: r) 0 = a := by simp [Af]
  rw [hb] at h
  by_cases hd : Ao a = true
  ·unfold Ap; rw [List.takeWhile_cons, hd]; simp
  ·rw [if_neg (by simp [hd])] at h
   split at h
   ·omega
   ·split at h
    ·rename_i hl
     have : a.toNat = 0 := by omega
     unfold Bv at hl; rw [this] at hl; simp at hl
    ·omega
theorem Zo {s : List UInt8} {i : Nat} (h : ¬ s.drop i = []) : 1 ≤ s.length - i := by
 have := List.length_pos_iff.2 h
 rw [List.length_drop] at this; exact this
def C9 : Nat → List UInt8 → List UInt8 → Int
 | 0, _, _ => 0
 | n + 1, a, b =>
  if Br a ≠ 0 ∨ Br b ≠ 0 then (if Br a ≠ Br b then Co (Br a) (Br b) else C9 n (a.drop 1) (b.drop 1))
  else if Ci (a.take (Ap Ao a)) (b.take (Ap Ao b)) ≠ 0 then Ci (a.take (Ap Ao a)) (b.take (Ap Ao b))
  else if a.drop (Ap Ao a) ≠ [] ∨ b.drop (Ap Ao b) ≠ [] then C9 n (a.drop (Ap Ao a)) (b.drop (Ap Ao b)) else 0
theorem Xf (x : Int) :
  FnV Tryz.prog 216 [(.int .i64 x)] (.bool false) := by
 refine Ba [.tmp 2] Tryz.func216 rfl Tryz.ntmps216 rfl rfl (fun B F hF => ?_)
 refine Aa [] [0] ?_
 refine Aa [] [2] ?_
 refine Ag ?_
 refine RK wR [(.bool (!decide (x = x)))] ?_
 exact Same.of_eq (by simp only [Aj]; simp)
theorem Sj (x y : Int) :
  FnV Tryz.prog 194 [(.int .i64 x), (.int .i64 y)] (.int .i64 (Co x y)) := by
 refine Ba [.tmp 4] Tryz.func194 rfl Tryz.ntmps194 rfl rfl (fun B F hF => ?_)
 refine Aa [] [0, 1] ?_
 refine Ae [] [0, 1, 5] [] (hk 1 Y5 (Xf x) <| hk0) v0 c0 ?_
 refine Ae [] [0, 1, 5, 6] [] (hk 1 Y5 (Xf y) <| hk0) v0 c0 ?_
 refine Ab ?_
 refine Aa [] [0, 1, 6, 11] ?_
 refine Db (by kernel_rfl) ?_
 refine Ai ?_
 refine Ab ?_
 refine Aa [] [0, 1, 13] ?_
 refine Db (by kernel_rfl) ?_
 refine Ai ?_
 refine Ab ?_
 refine Aa [] [0, 1, 16] ?_
 refine A8 (p := x < y) (by kernel_rfl) (fun c1 => ?_) (fun c1 => ?_)
 ·refine Aa [] [4] ?_
  refine Ag ?_
  refine RK wR [(.int .i64 (-1))] ?_
  exact Same.of_eq (by simp only [Aj]; unfold Co; rw [if_pos (by assumption)])
 ·refine Ai ?_
  refine Ab ?_
  refine Aa [] [19] ?_
  refine A8 (p := y < x) (by kernel_rfl) (fun c2 => ?_) (fun c2 => ?_)
  ·refine Aa [] [4] ?_
   refine Ag ?_
   refine RK wR [(.int .i64 1)] ?_
   exact Same.of_eq (by simp only [Aj]; unfold Co; rw [if_neg (by assumption), if_pos (by assumption)])
  ·refine Ai ?_
   refine Aa [] [4] ?_
   refine Ag ?_
   refine RK wR [(.int .i64 0)] ?_
   exact Same.of_eq (by simp only [Aj]; unfold Co; rw [if_neg (by assumption), if_neg (by assumption)])
theorem Qr (x y : Int) :
  FnV Tryz.prog 130 [(Bu [x, y])] (.int .i64 (orI x y)) := by
 refine Ba [.tmp 2] Tryz.func130 rfl Tryz.ntmps130 rfl rfl (fun B F hF => ?_)
 refine Aa [] [0] ?_
 refine Aa [] [0, 3] ?_
 refine Ab ?_
 refine Aa [] [3, 6, 7, 8] ?_
 refine A3 ?_
 refine M4 3 ?_
 refine Ej ?_
 refine Aa [] [3, 6, 7, 8, 9] ?_
 refine Ab ?_
 refine F6 (by kernel_rfl) ?_
 refine Ai ?_
 refine Ab ?_
 refine A3 ?_
 refine Ae [] [3, 5, 6, 7, 8] [] hk0 v0 (cc 0 (p := (0 ≤ (0 : Int) ∧ 0 < 2)) (by omega) <| c0) ?_
 refine Aa [] [3, 5, 6, 7, 8, 14] ?_
 refine Cj (p := x = 0) (by kernel_rfl) (fun c1 => ?_) (fun c1 => ?_)
 ·refine Aa [] [2] ?_
  refine Ag ?_
  refine RK wR [(.int .i64 x)] ?_
  exact Same.of_eq (by simp only [Aj]; unfold orI; rw [if_neg (by assumption)])
 ·refine Ai ?_
  refine Ar ?_
  refine A2 0 [] [3, 6, 7, 8] [] hk0 v0 (cc 0 (p := (-9223372036854775808 ≤ (1 : Int) ∧ (1 : Int) ≤ 9223372036854775807)) (by omega) <| c0) ?_
  refine Ej ?_
  refine Aa [] [3, 6, 7, 8, 9] ?_
  refine Ab ?_
  refine F6 (by kernel_rfl) ?_
  refine Ai ?_
  refine Ab ?_
  refine A3 ?_
  refine Ae [] [3, 5, 6, 7, 8] [] hk0 v0 (cc 0 (p := (0 ≤ (1 : Int) ∧ 1 < 2)) (by omega) <| c0) ?_
  refine Aa [] [3, 5, 6, 7, 8, 14] ?_
  refine Cj (p := y = 0) (by kernel_rfl) (fun c2 => ?_) (fun c2 => ?_)
  ·refine Aa [] [2] ?_
   refine Ag ?_
   refine RK wR [(.int .i64 y)] ?_
   exact Same.of_eq (by simp only [Aj]; unfold orI; rw [if_pos (by simp_all)] <;> rfl)
  ·refine Ai ?_
   refine Ar ?_
   refine A2 0 [] [3, 6, 7, 8] [] hk0 v0 (cc 0 (p := (-9223372036854775808 ≤ (2 : Int) ∧ (2 : Int) ≤ 9223372036854775807)) (by omega) <| c0) ?_
   refine Ej ?_
   refine Aa [] [3, 6, 7, 8, 9] ?_
   refine Ab ?_
   refine Db (by kernel_rfl) ?_
   refine Bl ?_
   refine Aa [] [2] ?_
   refine Ag ?_
   refine RK wR [(.int .i64 0)] ?_
   exact Same.of_eq (by simp only [Aj]; unfold orI; rw [if_pos (by simp_all)] <;> simp_all)
theorem Qw (a b : List UInt8) :
  FnV Tryz.prog 163 [(.str a), (.str b)] (.int .i64 (Ci a b)) := by
 refine Ba [.tmp 4] Tryz.func163 rfl Tryz.ntmps163 rfl rfl (fun B F hF => ?_)
 refine Aa [] [0, 1] ?_
 refine Ae [] [0, 1] [] (hk 1 O1 (Sx a 48 (by decide)) <| hk 3 O1 (Sx b 48 (by decide)) <| hk0) v0 c0 ?_
 refine Ae [] [4] [(9, 17)] (hk 4 R3 (Sj ((Lib.trimLeftB a 48).length : Int) ((Lib.trimLeftB b 48).length : Int)) <| hk 7 Za (Q1v (Lib.trimLeftB a 48) (Lib.trimLeftB b 48)) <| hk 9 R6 (Qr (Co ((Lib.trimLeftB a 48).length : Int) ((Lib.trimLeftB b 48).length : Int)) (Lib.compareBytes (Lib.trimLeftB a 48) (Lib.trimLeftB b 48))) <| hk0) (vk 9 17 (b := (Bu [Co ((Lib.trimLeftB a 48).length : Int) ((Lib.trimLeftB b 48).length : Int), Lib.compareBytes (Lib.trimLeftB a 48) (Lib.trimLeftB b 48)])) (Imp.list (f := AV.int .i64) rfl) <| v0) c0 ?_
 refine Ag ?_
 refine RK wR [(.int .i64 (Ci a b))] ?_
 exact Same.of_eq (by first | rfl | (simp only [Aj]; simp_all))
theorem Q9z (n : Nat) (a0 b0 : List UInt8) (h0 : a0.length + b0.length < n) (ha : a0.length ≤ 4194304) (hb : b0.length ≤ 4194304) :
  FnV Tryz.prog 164 [(.str a0), (.str b0)] (.int .i64 (C9 n a0 b0)) := by
 refine Ba [.tmp 4] Tryz.func164 rfl Tryz.ntmps164 rfl rfl (fun B F hF => ?_)
 refine Aa [] [0, 1] ?_
 refine Sy 0 rfl (fun g y => ∃ (k : Nat) (a : List UInt8) (b : List UInt8), a.length + b.length < k ∧ a.length ≤ 4194304 ∧ b.length ≤ 4194304 ∧ C9 n a0 b0 = C9 k a b ∧ y = ⟨[(0, (.str a)), (1, (.str b))], [], 0⟩ ∧ g = k) [0, 1] 0 (by omega) (fun hJ0 => ?_) ?_
 ·refine Ab ?_
  refine Sz ?_
  refine M5 (y := ⟨[(0, (.str a0)), (1, (.str b0))], [], 0⟩) [0, 1] 0 (by omega) (by kernel_rfl) (hJ0 _ _ ⟨n, a0, b0, (by omega), (by omega), (by omega), (by rfl), (by kernel_rfl), rfl⟩)
 ·rintro g y ⟨k, a, b, fl0_1, fl0_2, fl0_3, fl0_4, rfl, rfl⟩
  have hca := Ez Ao a
  have hcb := Ez Ao b
  refine Ab ?_
  refine Ae [] [0, 1, 5, 6] [] (hk 1 Y9 (Tn a) <| hk 3 Y9 (Tn b) <| hk0) v0 c0 ?_
  obtain ⟨b1, hb1⟩ : ∃ b, b = (!decide ((Br a) = 0)) := ⟨_, rfl⟩
  refine Ae (CS := [(4, ((!b1) = true → (!b1) = true)), (5, (b1 = false → (!b1) = true))]) [17, 18] [0, 1, 5, 6, 19] [] hk0 (vk 3 16 (a := .bool (!decide ((Br a) = 0))) (b := .bool b1) (Imp.of_eq (by rw [hb1])) <| v0) (by refine cc _ ?_ <| cc _ ?_ c0 <;> simp) ?_
  refine A9 (q := b1 || (!decide ((Br b) = 0))) (by kernel_rfl) (fun c1 => ?_) (fun c1 => ?_)
  ·subst hb1
   try simp only [Al] at c1
   refine Ab ?_
   refine Aa [] [0, 1, 5, 6, 22] ?_
   refine Cj (p := (Br a) = (Br b)) (by kernel_rfl) (fun c2 => ?_) (fun c2 => ?_)
   ·refine Ae [] [4] [] (hk 2 R3 (Sj (Br a) (Br b)) <| hk0) v0 c0 ?_
    refine Ag ?_
    refine RK wR [(.int .i64 (Co (Br a) (Br b)))] ?_
    refine Same.of_eq ?_
    simp only [Aj]
    rw [fl0_4]
    obtain ⟨k, rfl⟩ : ∃ q, g = q + 1 := ⟨g - 1, by omega⟩
    try simp only [List.take_length, List.drop_zero] at *
    unfold C9
    rw [if_pos (by assumption), if_pos (by assumption)]
   ·have hpa := M7 (s := a) (by omega)
    have hpb := M7 (s := b) (by omega)
    refine Ai ?_
    refine Cg (CS := [(1, (0 ≤ (1 : Int) ∧ (1 : Int) ≤ (a.length : Int) ∧ (a.length : Int) ≤ (a.length : Int))), (3, (0 ≤ (1 : Int) ∧ (1 : Int) ≤ (b.length : Int) ∧ (b.length : Int) ≤ (b.length : Int)))]) [] [0, 1] [] hk0 v0 (by refine cc _ ?_ <| cc _ ?_ c0 <;> omega) ?_
    have hza := fun h => Kh (s := a) h
    have hzb := fun h => Kh (s := b) h
    refine I4 ⟨rfl, _, (by kernel_rfl : gcS _ _ _ = some ⟨[(0, (.str ((a.take a.length).drop 1))), (1, (.str ((b.take b.length).drop 1)))], [], 0⟩), _, ?_, g - 1, ((a.take a.length).drop 1), ((b.take b.length).drop 1), ?_, ?_, ?_, ?_, (by kernel_rfl), rfl⟩
    all_goals (obtain ⟨k, rfl⟩ : ∃ q, g = q + 1 := ⟨g - 1, by omega⟩)
    all_goals try simp only [List.take_length, List.drop_zero, List.length_drop] at *
    all_goals have hdec : a.length = 0 → b.length = 0 → False := fun e1 e2 => by first | omega | (rcases c4 with h | h <;> have := Zo h <;> omega)
    ·first | omega | (have h1 := hza (by omega); have h2 := hzb (by omega); have h3 : ¬ (a.length = 0 ∧ b.length = 0) := fun e => hdec e.1 e.2; omega)
    ·first | omega | (have h1 := hza (by omega); have h2 := hzb (by omega); have h3 : ¬ (a.length = 0 ∧ b.length = 0) := fun e => hdec e.1 e.2; omega)
    ·omega
    ·omega
    ·rw [fl0_4]
     conv => lhs; unfold C9
     first | (rw [if_pos (by assumption), if_neg (by omega)]; rfl) | (rw [if_neg (by omega), if_neg (by omega), if_pos (by simp_all)]; rfl)
  ·subst hb1
   try simp only [Al] at c1
   refine Ai ?_
   refine Ae [] [0, 1, 7, 8] [] (hk 1 (al := [(.str a), (.fn 148 [] [])]) Gx ((Ho a (.fn 148 [] []) Ao (by omega) (fun c => FunV.of (by exact Hk) (H4 c))).of_args (ImpL.cons Imp.refl (ImpL.cons (Imp.clo rfl) ImpL.nil))) <| hk 3 (al := [(.str b), (.fn 148 [] [])]) Gx ((Ho b (.fn 148 [] []) Ao (by omega) (fun c => FunV.of (by exact Hk) (H4 c))).of_args (ImpL.cons Imp.refl (ImpL.cons (Imp.clo rfl) ImpL.nil))) <| hk0) v0 c0 ?_
   refine Ab ?_
   refine Cg (CS := [(2, (0 ≤ (0 : Int) ∧ (0 : Int) ≤ (Ap Ao a : Int) ∧ (Ap Ao a : Int) ≤ (a.length : Int))), (5, (0 ≤ (0 : Int) ∧ (0 : Int) ≤ (Ap Ao b : Int) ∧ (Ap Ao b : Int) ≤ (b.length : Int)))]) [] [0, 1, 7, 8, 9] [] (hk 6 R4 (Qw ((a.take (Ap Ao a)).drop 0) ((b.take (Ap Ao b)).drop 0)) <| hk0) v0 (by refine cc _ ?_ <| cc _ ?_ c0 <;> omega) ?_
   refine Aa [] [0, 1, 7, 8, 9, 42] ?_
   refine Cj (p := (Ci ((a.take (Ap Ao a)).drop 0) ((b.take (Ap Ao b)).drop 0)) = 0) (by kernel_rfl) (fun c3 => ?_) (fun c3 => ?_)
   ·refine Aa [] [4] ?_
    refine Ag ?_
    refine RK wR [(.int .i64 (Ci ((a.take (Ap Ao a)).drop 0) ((b.take (Ap Ao b)).drop 0)))] ?_
    refine Same.of_eq ?_
    simp only [Aj]
    rw [fl0_4]
    obtain ⟨k, rfl⟩ : ∃ q, g = q + 1 := ⟨g - 1, by omega⟩
    try simp only [List.take_length, List.drop_zero] at *
    unfold C9
    rw [if_neg (by omega), if_pos (by assumption)]
   ·refine Ai ?_
    refine Ab ?_
    refine Cg (CS := [(2, (0 ≤ (Ap Ao a : Int) ∧ (Ap Ao a : Int) ≤ (a.length : Int) ∧ (a.length : Int) ≤ (a.length : Int))), (5, (0 ≤ (Ap Ao b : Int) ∧ (Ap Ao b : Int) ≤ (b.length : Int) ∧ (b.length : Int) ≤ (b.length : Int)))]) [] [0, 1] [] hk0 v0 (by refine cc _ ?_ <| cc _ ?_ c0 <;> omega) ?_
    obtain ⟨b2, hb2⟩ : ∃ b, b = (!decide ((a.take a.length).drop (Ap Ao a) = [])) := ⟨_, rfl⟩
    refine Ae (CS := [(4, ((!b2) = true → (!b2) = true)), (5, (b2 = false → (!b2) = true))]) [53, 54] [0, 1, 55] [] hk0 (vk 3 52 (a := .bool (!decide ((a.take a.length).drop (Ap Ao a) = []))) (b := .bool b2) (Imp.of_eq (by rw [hb2])) <| v0) (by refine cc _ ?_ <| cc _ ?_ c0 <;> simp) ?_
    refine A9 (q := b2 || (!decide ((b.take b.length).drop (Ap Ao b) = []))) (by kernel_rfl) (fun c4 => ?_) (fun c4 => ?_)
    ·subst hb2
     try simp only [Al] at c4
     have hza := fun h => Kh (s := a) h
     have hzb := fun h => Kh (s := b) h
     refine I4 ⟨rfl, _, (by kernel_rfl : gcS _ _ _ = some ⟨[(0, (.str ((a.take a.length).drop (Ap Ao a)))), (1, (.str ((b.take b.length).drop (Ap Ao b))))], [], 0⟩), _, ?_, g - 1, ((a.take a.length).drop (Ap Ao a)), ((b.take b.length).drop (Ap Ao b)), ?_, ?_, ?_, ?_, (by kernel_rfl), rfl⟩
     all_goals (obtain ⟨k, rfl⟩ : ∃ q, g = q + 1 := ⟨g - 1, by omega⟩)
     all_goals try simp only [List.take_length, List.drop_zero, List.length_drop] at *
     all_goals have hdec : a.length = 0 → b.length = 0 → False := fun e1 e2 => by first | omega | (rcases c4 with h | h <;> have := Zo h <;> omega)
     ·first | omega | (have h1 := hza (by omega); have h2 := hzb (by omega); have h3 : ¬ (a.length = 0 ∧ b.length = 0) := fun e => hdec e.1 e.2; omega)
     ·first | omega | (have h1 := hza (by omega); have h2 := hzb (by omega); have h3 : ¬ (a.length = 0 ∧ b.length = 0) := fun e => hdec e.1 e.2; omega)
     ·omega
     ·omega
     ·rw [fl0_4]
      conv => lhs; unfold C9
      first | (rw [if_pos (by assumption), if_neg (by omega)]; rfl) | (rw [if_neg (by omega), if_neg (by omega), if_pos (by simp_all)]; rfl)
    ·subst hb2
     try simp only [Al] at c4
     refine Ai ?_
     refine Aa [] [4] ?_
     refine Ag ?_
     refine RK wR [(.int .i64 0)] ?_
     refine Same.of_eq ?_
     simp only [Aj]
     rw [fl0_4]
     obtain ⟨k, rfl⟩ : ∃ q, g = q + 1 := ⟨g - 1, by omega⟩
     try simp only [List.take_length, List.drop_zero] at *
     unfold C9
     rw [if_neg (by omega), if_neg (by omega), if_neg (by simp_all)]
end Sv
end Go.Proofs.YtlfjokcbkopfeaaGreatDoor
end
section
namespace Go.Proofs.YtlfjokcbkopfeaaGreatDoor
open Go Go.RowKit
namespace Sv
attribute [local irreducible] SW SO Bg
set_option maxHeartbeats 1000000
set_option maxRecDepth 100000
theorem Ze : As Tryz.prog 165 := Ax Tryz.func165 (by kernel_rfl) rfl
theorem Q84 : As Tryz.prog 129 := Ax Tryz.func129 (by kernel_rfl) rfl
def orS (x y : List UInt8) : List UInt8 := if x = [] then y else x
def A7 (k : Int) (a b : List UInt8) : (List UInt8 × List UInt8 × List UInt8) × (List UInt8 × List UInt8 × List UInt8) × Int :=
 if k ≠ 1 ∧ k ≠ 2 then (([], [], []), ([], [], []), 1) else if B7 a = 0 then (Cc a, Cc b, B7 b) else (Cc a, ([], [], []), B7 a)
theorem V7 (x y : List UInt8) :
  FnV Tryz.prog 165 [(Ch [x, y])] (.str (orS x y)) := by
 refine Ba [.tmp 2] Tryz.func165 rfl Tryz.ntmps165 rfl rfl (fun B F hF => ?_)
 refine Aa [] [0] ?_
 refine Aa [] [0, 3] ?_
 refine Ab ?_
 refine Aa [] [3, 6, 7, 8] ?_
 refine A3 ?_
 refine M4 3 ?_
 refine Ej ?_
 refine Aa [] [3, 6, 7, 8, 9] ?_
 refine Ab ?_
 refine F6 (by kernel_rfl) ?_
 refine Ai ?_
 refine Ab ?_
 refine A3 ?_
 refine Ae [] [3, 5, 6, 7, 8] [] hk0 v0 (cc 0 (p := (0 ≤ (0 : Int) ∧ 0 < 2)) (by omega) <| c0) ?_
 refine Aa [] [3, 5, 6, 7, 8, 14] ?_
 refine Cj (p := x = []) (by kernel_rfl) (fun c1 => ?_) (fun c1 => ?_)
 ·refine Aa [] [2] ?_
  refine Ag ?_
  refine RK wR [(.str x)] ?_
  exact Same.of_eq (by simp only [Aj]; unfold orS; rw [if_neg (by assumption)])
 ·refine Ai ?_
  refine Ar ?_
  refine A2 0 [] [3, 6, 7, 8] [] hk0 v0 (cc 0 (p := (-9223372036854775808 ≤ (1 : Int) ∧ (1 : Int) ≤ 9223372036854775807)) (by omega) <| c0) ?_
  refine Ej ?_
  refine Aa [] [3, 6, 7, 8, 9] ?_
  refine Ab ?_
  refine F6 (by kernel_rfl) ?_
  refine Ai ?_
  refine Ab ?_
  refine A3 ?_
  refine Ae [] [3, 5, 6, 7, 8] [] hk0 v0 (cc 0 (p := (0 ≤ (1 : Int) ∧ 1 < 2)) (by omega) <| c0) ?_
  refine Aa [] [3, 5, 6, 7, 8, 14] ?_
  refine Cj (p := y = []) (by kernel_rfl) (fun c2 => ?_) (fun c2 => ?_)
  ·refine Aa [] [2] ?_
   refine Ag ?_
   refine RK wR [(.str y)] ?_
   exact Same.of_eq (by simp only [Aj]; unfold orS; rw [if_pos (by simp_all)] <;> rfl)
  ·refine Ai ?_
   refine Ar ?_
   refine A2 0 [] [3, 6, 7, 8] [] hk0 v0 (cc 0 (p := (-9223372036854775808 ≤ (2 : Int) ∧ (2 : Int) ≤ 9223372036854775807)) (by omega) <| c0) ?_
   refine Ej ?_
   refine Aa [] [3, 6, 7, 8, 9] ?_
   refine Ab ?_
   refine Db (by kernel_rfl) ?_
   refine Bl ?_
   refine Aa [] [2] ?_
   refine Ag ?_
   refine RK wR [(.str [])] ?_
   exact Same.of_eq (by simp only [Aj]; unfold orS; rw [if_pos (by simp_all)] <;> simp_all)
theorem X0l (kind : Int) (a b : List UInt8) (ha : a.length ≤ 4194304) (hb : b.length ≤ 4194304) :
  FnV Tryz.prog 129 [(.int .i64 kind), (.str a), (.str b)] (.tup [(.agg [.str (A7 kind a b).1.1, .str (A7 kind a b).1.2.1, .str (A7 kind a b).1.2.2]), (.agg [.str (A7 kind a b).2.1.1, .str (A7 kind a b).2.1.2.1, .str (A7 kind a b).2.1.2.2]), .int .i64 (A7 kind a b).2.2]) := by
 refine Ba [.cell 6 136, .cell 7 136, .tmp 8] Tryz.func129 rfl Tryz.ntmps129 rfl rfl (fun B F hF => ?_)
 refine Aa [] [0, 1, 2, 6, 7] ?_
 refine Ab ?_
 obtain ⟨b1, hb1⟩ : ∃ b, b = (!decide (kind = 1)) := ⟨_, rfl⟩
 refine Ae (CS := [(4, (b1 = true → b1 = true)), (5, (b1 = true → b1 = true))]) [12, 13] [1, 2, 6, 7, 14] [] hk0 (vk 3 11 (a := .bool (!decide (kind = 1))) (b := .bool b1) (Imp.of_eq (by rw [hb1])) <| v0) (by refine cc _ ?_ <| cc _ ?_ c0 <;> simp) ?_
 refine A9 (q := b1 && (!decide (kind = 2))) (by kernel_rfl) (fun c1 => ?_) (fun c1 => ?_)
 ·subst hb1
  try simp only [Al] at c1
  refine Cg [] [6, 7, 8] [] hk0 v0 c0 ?_
  refine Ag ?_
  refine RK wR [(.agg [(.str []), (.str []), (.str [])]), (.agg [(.str []), (.str []), (.str [])]), (.int .i64 1)] ?_
  exact Same.of_eq (by simp only [Aj]; unfold A7; first | (rw [if_pos (by omega)]; done) | (rw [if_neg (by omega), if_pos (by omega)]; done) | (rw [if_neg (by omega), if_neg (by omega)]; done))
 ·subst hb1
  try simp only [Al] at c1
  refine Ai ?_
  refine Ab ?_
  refine Ae [] [2, 6, 7, 8] [] (hk 1 Mq (Ou a (by omega)) <| hk0) v0 c0 ?_
  refine Aa [] [2, 6, 7, 8, 23] ?_
  refine A8 (p := (B7 a) = 0) (by kernel_rfl) (fun c2 => ?_) (fun c2 => ?_)
  ·refine Ar ?_
   refine A2 0 [] [6, 7, 8] [] (hk 1 Mq (Ou b (by omega)) <| hk0) v0 c0 ?_
   refine Cg [] [6, 7, 8] [] hk0 v0 c0 ?_
   refine Ag ?_
   refine RK wR [(.agg [(.str ((Cc a).1)), (.str ((Cc a).2.1)), (.str ((Cc a).2.2))]), (.agg [(.str ((Cc b).1)), (.str ((Cc b).2.1)), (.str ((Cc b).2.2))]), (.int .i64 (B7 b))] ?_
   exact Same.of_eq (by simp only [Aj]; unfold A7; first | (rw [if_pos (by omega)]; done) | (rw [if_neg (by omega), if_pos (by omega)]; done) | (rw [if_neg (by omega), if_neg (by omega)]; done))
  ·refine Ai ?_
   refine Cg [] [6, 7, 8] [] hk0 v0 c0 ?_
   refine Ag ?_
   refine RK wR [(.agg [(.str ((Cc a).1)), (.str ((Cc a).2.1)), (.str ((Cc a).2.2))]), (.agg [(.str []), (.str []), (.str [])]), (.int .i64 (B7 a))] ?_
   exact Same.of_eq (by simp only [Aj]; unfold A7; first | (rw [if_pos (by omega)]; done) | (rw [if_neg (by omega), if_pos (by omega)]; done) | (rw [if_neg (by omega), if_neg (by omega)]; done))
end Sv
end Go.Proofs.YtlfjokcbkopfeaaGreatDoor
end
section
namespace Go.Proofs.YtlfjokcbkopfeaaGreatDoor
open Go Go.RowKit
namespace Sv
attribute [local irreducible] SW SO Bg
set_option maxHeartbeats 400000
set_option maxRecDepth 100000
theorem Zd : As Tryz.prog 166 := Ax Tryz.func166 (by kernel_rfl) rfl
theorem Y8 : As Tryz.prog 197 := Ax Tryz.func197 (by kernel_rfl) rfl
theorem Q8a : As Tryz.prog 198 := Ax Tryz.func198 (by kernel_rfl) rfl
theorem Q79 : As Tryz.prog 199 := Ax Tryz.func199 (by kernel_rfl) rfl
def En (c : UInt8) : Bool := Ao c || (Bv c || (decide (c.toNat = 126) || decide (c.toNat = 94)))
theorem Q51 (c : UInt8) :
  FnV Tryz.prog 198 [(.int .u8 ((c.toNat : Int)))] (.bool (En c)) := by
 refine Ba [.tmp 2] Tryz.func198 rfl Tryz.ntmps198 rfl rfl (fun B F hF => ?_)
 refine Aa [] [0] ?_
 obtain ⟨b1, hb1⟩ : ∃ b, b = ((Ao c) || (Bv c)) := ⟨_, rfl⟩
 obtain ⟨b2, hb2⟩ : ∃ b, b = (b1 || (decide ((c.toNat : Int) = 126))) := ⟨_, rfl⟩
 refine Ae (CS := [(4, (!(Ao c)) = true → (!(Ao c)) = true), (5, ((Ao c) = false → (!(Ao c)) = true)), (8, ((!b1) = true → (!b1) = true)), (9, (b1 = false → (!b1) = true)), (12, ((!b2) = true → (!b2) = true)), (13, (b2 = false → (!b2) = true))]) [6, 10, 11, 14, 15] [2] [] (hk 1 Hk (H4 c) <| hkg 4 (!(Ao c)) Ld (fun cg => Mb c) <| hk0) (vk 7 9 (a := .bool ((Ao c) || (Bv c))) (b := .bool b1) (Imp.of_eq (by rw [hb1])) <| vk 11 13 (a := .bool (b1 || (decide ((c.toNat : Int) = 126)))) (b := .bool b2) (Imp.of_eq (by rw [hb2])) <| v0) (by refine cc _ ?_ <| cc _ ?_ <| cc _ ?_ <| cc _ ?_ <| cc _ ?_ <| cc _ ?_ c0 <;> simp) ?_
 refine Ag ?_
 refine RK wR [(.bool (b2 || (decide ((c.toNat : Int) = 94))))] ?_
 subst hb2 hb1
 refine Same.of_eq ?_
 simp only [Aj]
 congr 1
 unfold En
 rw [Bool.eq_iff_iff]
 have e1 : ((c.toNat : Int) = 126) ↔ c.toNat = 126 := by omega
 have e2 : ((c.toNat : Int) = 94) ↔ c.toNat = 94 := by omega
 simp only [Bool.and_eq_true, Bool.or_eq_true, decide_eq_true_eq, e1, e2, or_assoc]
theorem Q42 (c : UInt8) (a : AV) (q : Bool) (ha : FunV Tryz.prog a [.int .u8 (c.toNat : Int)] (.bool q)) :
  FnV Tryz.prog 199 [(.int .u8 ((c.toNat : Int))), (.fp (.agg [(.clo a)]))] (.bool (!q)) := by
 refine Ba [.tmp 3] Tryz.func199 rfl Tryz.ntmps199 rfl rfl (fun B F hF => ?_)
 refine Aa [] [0, 1] ?_
 refine Ab ?_
 refine Ar ?_
 refine Bj 2 0 [] [4, 5] [] hk0 v0 c0 ?_
 refine F7 (s' := [(4, (.clo a)), (5, (.int .u8 ((c.toNat : Int)))), (6, (.bool q))]) (a := (.clo a)) (al := [(.int .u8 ((c.toNat : Int)))]) (r := (.bool q)) (by kernel_rfl) (by kernel_rfl) (by kernel_rfl) (by kernel_rfl) (by kernel_rfl) ha.clo (by kernel_rfl) ?_
 refine A2 3 [] [3] [] hk0 v0 c0 ?_
 refine Ag ?_
 refine RK wR [(.bool (!q))] ?_
 exact Same.of_eq (by first | rfl | (simp only [Aj]; simp_all))
theorem X0s (a b : List UInt8) (ha : a.length ≤ 4194304) (hb : b.length ≤ 4194304) :
  FnV Tryz.prog 197 [(.int .u8 126), (.fp (.agg [(.str a)])), (.fp (.agg [(.str b)]))] (.tup [.bool (A4 a 126), .bool (A4 b 126)]) := by
 refine Ba [.tmp 4, .tmp 5] Tryz.func197 rfl Tryz.ntmps197 rfl rfl (fun B F hF => ?_)
 refine Aa [] [0, 1, 2] ?_
 refine Cg [] [4, 5] [] (hk 3 Iv (Ka a 126 (by omega)) <| hk 7 Iv (Ka b 126 (by omega)) <| hk0) v0 c0 ?_
 refine Ag ?_
 refine RK wR [(.bool (A4 a 126)), (.bool (A4 b 126))] ?_
 exact Same.of_eq (by first | rfl | (simp only [Aj]; simp_all))
theorem X0r (a b : List UInt8) (ha : a.length ≤ 4194304) (hb : b.length ≤ 4194304) :
  FnV Tryz.prog 197 [(.int .u8 94), (.fp (.agg [(.str a)])), (.fp (.agg [(.str b)]))] (.tup [.bool (A4 a 94), .bool (A4 b 94)]) := by
 refine Ba [.tmp 4, .tmp 5] Tryz.func197 rfl Tryz.ntmps197 rfl rfl (fun B F hF => ?_)
 refine Aa [] [0, 1, 2] ?_
 refine Cg [] [4, 5] [] (hk 3 Iv (Ka a 94 (by omega)) <| hk 7 Iv (Ka b 94 (by omega)) <| hk0) v0 c0 ?_
 refine Ag ?_
 refine RK wR [(.bool (A4 a 94)), (.bool (A4 b 94))] ?_
 exact Same.of_eq (by first | rfl | (simp only [Aj]; simp_all))
end Sv
end Go.Proofs.YtlfjokcbkopfeaaGreatDoor
end
section
namespace Go.Proofs.YtlfjokcbkopfeaaGreatDoor
open Go Go.RowKit
namespace Sv
attribute [local irreducible] SW SO Bg
set_option maxHeartbeats 2000000
set_option maxRecDepth 100000
def Cm (c : UInt8) : Bool := !En c
theorem Wj (c : UInt8) : FunV Tryz.prog (.fn 199 [] [.fp (.agg [.fn 198 [] []])]) [.int .u8 (c.toNat : Int)] (.bool (Cm c)) :=
 FunV.of (by exact Q79) ((Q42 c (.fn 198 [] []) (En c) (FunV.of (by exact Q8a) (Q51 c))).of_args (ImpL.cons Imp.refl (ImpL.cons (Imp.fp (Imp.aggs (ImpL.cons (Imp.clo rfl) ImpL.nil))) ImpL.nil)))
theorem Js {s : List UInt8} {k : UInt8} (h : A4 s k = true) : 1 ≤ s.length := by
 cases s with
 | nil => simp [A4] at h
 | cons a r => simp
theorem Zw (p : UInt8 → Bool) : ∀ s : List UInt8, s.drop (Ap p s) = [] ∨ p (Af (s.drop (Ap p s)) 0) = false
 | [] => .inl rfl
 | a :: r => by
  unfold Ap
  rw [List.takeWhile_cons]
  cases h : p a with
  | true => exact Zw p r
  | false => right; simpa [Af] using h
theorem N6 {s r : List UInt8} (h : r = s.drop (Ap Cm s)) : r = [] ∨ En (Af r 0) = true := by
 rcases Zw Cm s with q | q
 ·exact .inl (h.trans q)
 ·right
  rw [h]
  have e : (!En (Af (s.drop (Ap Cm s)) 0)) = false := q
  simpa using e
theorem Mr {p : UInt8 → Bool} {s : List UInt8} (h : 1 ≤ s.length) (k : p (Af s 0) = true) : 1 ≤ Ap p s := by
 cases s with
 | nil => simp at h
 | cons a r => unfold Ap; rw [List.takeWhile_cons, show p a = true from by simpa [Af] using k]; simp
theorem Wz {s : List UInt8} (h : En (Af s 0) = true) (hs : 1 ≤ s.length) (h1 : A4 s 126 = false) (h2 : A4 s 94 = false) (h3 : Ao (Af s 0) = false) : Bv (Af s 0) = true := by
 cases s with
 | nil => simp at hs
 | cons a r =>
  have e : Af (a :: r) 0 = a := by simp [Af]
  rw [e] at h h3 ⊢
  unfold En at h
  rw [h3] at h
  have a1 : ¬ a.toNat = 126 := fun q => by have : a = 126 := UInt8.toNat_inj.1 q; subst this; simp [A4] at h1
  have a2 : ¬ a.toNat = 94 := fun q => by have : a = 94 := UInt8.toNat_inj.1 q; subst this; simp [A4] at h2
  simpa [a1, a2] using h
def C4 (r : List UInt8 → List UInt8 → Int) (a b : List UInt8) : Int :=
 if A4 a 126 = true ∨ A4 b 126 = true then
  if A4 a 126 = true ∧ A4 b 126 = true then r (a.drop 1) (b.drop 1) else Em (A4 a 126) (A4 b 126) (-1)
 else if A4 a 94 = true ∨ A4 b 94 = true then
  if A4 a 94 = true ∧ A4 b 94 = true then r (a.drop 1) (b.drop 1)
  else if a = [] ∨ b = [] then Em (A4 a 94) (A4 b 94) 1 else Em (A4 a 94) (A4 b 94) (-1)
 else if a = [] ∨ b = [] then Co (a.length : Int) (b.length : Int)
 else if Ao (Af a 0) = true then
  if Ap Ao b = 0 then 1
  else if ¬ Ci (a.take (Ap Ao a)) (b.take (Ap Ao b)) = 0 then Ci (a.take (Ap Ao a)) (b.take (Ap Ao b))
  else r (a.drop (Ap Ao a)) (b.drop (Ap Ao b))
 else if Ap Bv b = 0 then -1
 else if ¬ Lib.compareBytes (a.take (Ap Bv a)) (b.take (Ap Bv b)) = 0 then Lib.compareBytes (a.take (Ap Bv a)) (b.take (Ap Bv b))
 else r (a.drop (Ap Bv a)) (b.drop (Ap Bv b))
def Ek : Nat → List UInt8 → List UInt8 → Int
 | 0, _, _ => 0
 | n + 1, a, b => C4 (Ek n) (a.drop (Ap Cm a)) (b.drop (Ap Cm b))
theorem Q3i (n : Nat) (a0 b0 : List UInt8) (h0 : a0.length + b0.length < n) (ha : a0.length ≤ 4194304) (hb : b0.length ≤ 4194304) :
  FnV Tryz.prog 166 [(.str a0), (.str b0)] (.int .i64 (Ek n a0 b0)) := by
 refine Ba [.tmp 4] Tryz.func166 rfl Tryz.ntmps166 rfl rfl (fun B F hF => ?_)
 refine Aa [] [2, 3] ?_
 refine Sy 0 rfl (fun g y => ∃ (k : Nat) (a : List UInt8) (b : List UInt8), a.length + b.length < k ∧ a.length ≤ 4194304 ∧ b.length ≤ 4194304 ∧ Ek n a0 b0 = Ek k a b ∧ y = ⟨[(2, (.ptr 0 0)), (3, (.ptr 1 0)), (5, (.fn 197 [] [(.ptr 0 0), (.ptr 1 0)])), (7, (.fn 199 [] [(.fp (.agg [(.fn 198 [] [])]))]))], [(0, (.row [(.str a)] 9)), (1, (.row [(.str b)] 9))], 3⟩ ∧ g = k) [2, 3, 5, 7] 3 (by omega) (fun hJ0 => ?_) ?_
 ·refine Ab ?_
  refine Ar ?_
  refine D4 [] [2, 3, 5] ?_
  refine Ab ?_
  refine Ar ?_
  refine D4 [] [2, 3, 5, 6] ?_
  refine Ab ?_
  refine Ar ?_
  refine A2 0 [] [2, 3, 5, 7] [(0, 6)] hk0 v0 c0 ?_
  refine Ab ?_
  refine Sz ?_
  refine M5 (y := ⟨[(2, (.ptr 0 0)), (3, (.ptr 1 0)), (5, (.fn 197 [] [(.ptr 0 0), (.ptr 1 0)])), (7, (.fn 199 [] [(.fp (.agg [(.fn 198 [] [])]))]))], [(0, (.row [(.str a0)] 9)), (1, (.row [(.str b0)] 9))], 3⟩) [2, 3, 5, 7] 3 (by omega) (by kernel_rfl) (hJ0 _ _ ⟨n, a0, b0, (by omega), (by omega), (by omega), (by rfl), (by kernel_rfl), rfl⟩)
 ·rintro g y ⟨k, a, b, fl0_1, fl0_2, fl0_3, fl0_4, rfl, rfl⟩
  obtain ⟨k, rfl⟩ : ∃ q, g = q + 1 := ⟨g - 1, by omega⟩
  have hoa := Ez Cm a
  have hob := Ez Cm b
  refine C7 (fun y => ∃ (a1 : List UInt8) (b1 : List UInt8), a1 = a.drop (Ap Cm a) ∧ b1 = b.drop (Ap Cm b) ∧ y = ⟨[(2, (.ptr 0 0)), (3, (.ptr 1 0)), (5, (.fn 197 [] [(.ptr 0 0), (.ptr 1 0)])), (7, (.fn 199 [] [(.fp (.agg [(.fn 198 [] [])]))]))], [(0, (.row [(.str a1)] 9)), (1, (.row [(.str b1)] 9))], 3⟩) [2, 3, 5, 7] 3 (by omega) ?_ ?_
  ·refine G1 (CS := [(4, (0 ≤ (Ap Cm a : Int) ∧ (Ap Cm a : Int) ≤ (a.length : Int) ∧ (a.length : Int) ≤ (a.length : Int))), (9, (0 ≤ (Ap Cm b : Int) ∧ (Ap Cm b : Int) ≤ (b.length : Int) ∧ (b.length : Int) ≤ (b.length : Int)))]) [] [2, 3, 5, 7] [] (hk 3 (al := [(.str a), (.fn 199 [] [(.fp (.agg [(.fn 198 [] [])]))])]) Gx ((Ho a (.fn 199 [] [.fp (.agg [.fn 198 [] []])]) Cm (by omega) (fun c => Wj c)).of_args (ImpL.cons Imp.refl (ImpL.cons (Imp.clo rfl) ImpL.nil))) <| hk 8 (al := [(.str b), (.fn 199 [] [(.fp (.agg [(.fn 198 [] [])]))])]) Gx ((Ho b (.fn 199 [] [.fp (.agg [.fn 198 [] []])]) Cm (by omega) (fun c => Wj c)).of_args (ImpL.cons Imp.refl (ImpL.cons (Imp.clo rfl) ImpL.nil))) <| hk0) v0 (by refine cc _ ?_ <| cc _ ?_ c0 <;> omega) ?_
   refine ⟨by kernel_rfl, ((a.take a.length).drop (Ap Cm a)), ((b.take b.length).drop (Ap Cm b)), ?_, ?_, (by kernel_rfl)⟩
   all_goals rw [List.take_length]
  ·rintro y1 ⟨a1, b1, ja, jb, rfl⟩
   have hla : a1.length ≤ a.length := by rw [ja, List.length_drop]; omega
   have hlb : b1.length ≤ b.length := by rw [jb, List.length_drop]; omega
   have hma := N6 ja
   have hmb := N6 jb
   have hxa := fun k => Js (s := a1) (k := k)
   have hxb := fun k => Js (s := b1) (k := k)
   have hda := Ez Ao a1
   have hdb := Ez Ao b1
   have hea := Ez Bv a1
   have heb := Ez Bv b1
   have e0 : Ek (k + 1) a b = C4 (Ek k) a1 b1 := by rw [ja, jb]; rfl
   refine Ab ?_
   refine Ab ?_
   refine Ar ?_
   refine Bj 1 0 [] [2, 3, 5, 7, 31] [] hk0 v0 c0 ?_
   refine Q1j (s' := [(2, (.ptr 0 0)), (3, (.ptr 1 0)), (5, (.fn 197 [] [(.ptr 0 0), (.ptr 1 0)])), (7, (.fn 199 [] [(.fp (.agg [(.fn 198 [] [])]))])), (31, (.fn 197 [] [(.ptr 0 0), (.ptr 1 0)])), (32, (.tup [(.bool (A4 a1 126)), (.bool (A4 b1 126))]))]) (al := [(.int .u8 126)]) (f := 197) (cap := [(.ptr 0 0), (.ptr 1 0)]) (al' := [(.int .u8 126), (.fp (.agg [(.str a1)])), (.fp (.agg [(.str b1)]))]) (h' := []) (r := (.tup [(.bool (A4 a1 126)), (.bool (A4 b1 126))])) (by kernel_rfl) (by kernel_rfl) (by exact Y8) (by kernel_rfl) (by kernel_rfl) (X0s a1 b1 (by omega) (by omega)) rfl (by kernel_rfl) ?_
   refine A2 2 [] [2, 3, 5, 7, 8, 9] [] hk0 v0 c0 ?_
   refine Ae [37] [2, 3, 5, 7, 8, 9, 38] [] hk0 v0 (cc 3 (p := ((A4 a1 126) = false → (!(A4 a1 126)) = true)) (by simp) <| c0) ?_
   refine A9 (q := (A4 a1 126) || (A4 b1 126)) (by kernel_rfl) (fun c1 => ?_) (fun c1 => ?_)
   ·try simp only [Al] at c1
    refine Ab ?_
    refine Ae [41] [2, 3, 5, 7, 8, 9, 42] [] hk0 v0 (cc 3 (p := ((A4 a1 126) = true → (A4 a1 126) = true)) (by simp) <| c0) ?_
    refine A9 (q := (A4 a1 126) && (A4 b1 126)) (by kernel_rfl) (fun c2 => ?_) (fun c2 => ?_)
    ·try simp only [Al] at c2
     have h1 := hxa _ c2.1
     have h2 := hxb _ c2.2
     refine Cg (CS := [(1, (0 ≤ (1 : Int) ∧ (1 : Int) ≤ (a1.length : Int) ∧ (a1.length : Int) ≤ (a1.length : Int))), (3, (0 ≤ (1 : Int) ∧ (1 : Int) ≤ (b1.length : Int) ∧ (b1.length : Int) ≤ (b1.length : Int)))]) [] [2, 3, 5, 7] [] hk0 v0 (by refine cc _ ?_ <| cc _ ?_ c0 <;> omega) ?_
     refine I4 ⟨rfl, _, (by kernel_rfl : gcS _ _ _ = some ⟨[(2, (.ptr 0 0)), (3, (.ptr 1 0)), (5, (.fn 197 [] [(.ptr 0 0), (.ptr 1 0)])), (7, (.fn 199 [] [(.fp (.agg [(.fn 198 [] [])]))]))], [(0, (.row [(.str ((a1.take a1.length).drop 1))] 9)), (1, (.row [(.str ((b1.take b1.length).drop 1))] 9))], 3⟩), _, ?_, k, ((a1.take a1.length).drop 1), ((b1.take b1.length).drop 1), ?_, ?_, ?_, ?_, (by kernel_rfl), rfl⟩
     all_goals (try simp only [List.take_length, List.drop_zero, List.length_drop] at *)
     ·omega
     ·omega
     ·omega
     ·omega
     ·rw [fl0_4, e0]
      unfold C4
      rw [if_pos c1, if_pos c2]
    ·try simp only [Al] at c2
     refine Ai ?_
     refine Ae [] [4] [] (hk 2 Oz (N4 (A4 a1 126) (A4 b1 126) (-1) (by omega)) <| hk0) v0 c0 ?_
     refine Ag ?_
     refine RK wR [(.int .i64 (Em (A4 a1 126) (A4 b1 126) (-1)))] ?_
     refine Same.of_eq ?_
     simp only [Aj]
     try simp only [List.take_length, List.drop_zero] at *
     rw [fl0_4, e0]
     congr 1
     symm
     unfold C4
     rw [if_pos c1, if_neg (by rcases c2 with h | h <;> simp [h])]
   ·try simp only [Al] at c1
    refine Ai ?_
    refine Ab ?_
    refine Ab ?_
    refine Ar ?_
    refine Bj 1 0 [] [2, 3, 5, 7, 51] [] hk0 v0 c0 ?_
    refine Q1j (s' := [(2, (.ptr 0 0)), (3, (.ptr 1 0)), (5, (.fn 197 [] [(.ptr 0 0), (.ptr 1 0)])), (7, (.fn 199 [] [(.fp (.agg [(.fn 198 [] [])]))])), (51, (.fn 197 [] [(.ptr 0 0), (.ptr 1 0)])), (52, (.tup [(.bool (A4 a1 94)), (.bool (A4 b1 94))]))]) (al := [(.int .u8 94)]) (f := 197) (cap := [(.ptr 0 0), (.ptr 1 0)]) (al' := [(.int .u8 94), (.fp (.agg [(.str a1)])), (.fp (.agg [(.str b1)]))]) (h' := []) (r := (.tup [(.bool (A4 a1 94)), (.bool (A4 b1 94))])) (by kernel_rfl) (by kernel_rfl) (by exact Y8) (by kernel_rfl) (by kernel_rfl) (X0r a1 b1 (by omega) (by omega)) rfl (by kernel_rfl) ?_
    refine A2 2 [] [2, 3, 5, 7, 10, 11] [] hk0 v0 c0 ?_
    refine Ae [57] [2, 3, 5, 7, 10, 11, 58] [] hk0 v0 (cc 3 (p := ((A4 a1 94) = false → (!(A4 a1 94)) = true)) (by simp) <| c0) ?_
    refine A9 (q := (A4 a1 94) || (A4 b1 94)) (by kernel_rfl) (fun c3 => ?_) (fun c3 => ?_)
    ·try simp only [Al] at c3
     refine Ab ?_
     refine A3 ?_
     refine Ae [62] [2, 3, 5, 7, 10, 11, 59] [] hk0 v0 (cc 3 (p := ((A4 a1 94) = true → (A4 a1 94) = true)) (by simp) <| c0) ?_
     refine A9 (q := (A4 a1 94) && (A4 b1 94)) (by kernel_rfl) (fun c4 => ?_) (fun c4 => ?_)
     ·try simp only [Al] at c4
      have h1 := hxa _ c4.1
      have h2 := hxb _ c4.2
      refine Cg (CS := [(1, (0 ≤ (1 : Int) ∧ (1 : Int) ≤ (a1.length : Int) ∧ (a1.length : Int) ≤ (a1.length : Int))), (3, (0 ≤ (1 : Int) ∧ (1 : Int) ≤ (b1.length : Int) ∧ (b1.length : Int) ≤ (b1.length : Int)))]) [] [2, 3, 5, 7] [] hk0 v0 (by refine cc _ ?_ <| cc _ ?_ c0 <;> omega) ?_
      refine I4 ⟨rfl, _, (by kernel_rfl : gcS _ _ _ = some ⟨[(2, (.ptr 0 0)), (3, (.ptr 1 0)), (5, (.fn 197 [] [(.ptr 0 0), (.ptr 1 0)])), (7, (.fn 199 [] [(.fp (.agg [(.fn 198 [] [])]))]))], [(0, (.row [(.str ((a1.take a1.length).drop 1))] 9)), (1, (.row [(.str ((b1.take b1.length).drop 1))] 9))], 3⟩), _, ?_, k, ((a1.take a1.length).drop 1), ((b1.take b1.length).drop 1), ?_, ?_, ?_, ?_, (by kernel_rfl), rfl⟩
      all_goals (try simp only [List.take_length, List.drop_zero, List.length_drop] at *)
      ·omega
      ·omega
      ·omega
      ·omega
      ·rw [fl0_4, e0]
       unfold C4
       rw [if_neg (by simp [c1.1, c1.2]), if_pos c3, if_pos c4]
     ·try simp only [Al] at c4
      refine Ae (CS := [(4, ((!(decide (a1 = []))) = true → (!(decide (a1 = []))) = true)), (5, ((decide (a1 = [])) = false → (!(decide (a1 = []))) = true))]) [72, 73] [10, 11, 68] [] hk0 v0 (by refine cc _ ?_ <| cc _ ?_ c0 <;> simp) ?_
      refine A9 (q := (decide (a1 = [])) || (decide (b1 = []))) (by kernel_rfl) (fun c5 => ?_) (fun c5 => ?_)
      ·try simp only [Al] at c5
       refine Ae [] [4] [] (hk 2 Oz (N4 (A4 a1 94) (A4 b1 94) 1 (by omega)) <| hk0) v0 c0 ?_
       refine Ag ?_
       refine RK wR [(.int .i64 (Em (A4 a1 94) (A4 b1 94) 1))] ?_
       refine Same.of_eq ?_
       simp only [Aj]
       try simp only [List.take_length, List.drop_zero] at *
       rw [fl0_4, e0]
       congr 1
       symm
       unfold C4
       rw [if_neg (by simp [c1.1, c1.2]), if_pos c3, if_neg (by rcases c4 with h | h <;> simp [h]), if_pos c5]
      ·try simp only [Al] at c5
       refine Ai ?_
       refine Ae [] [4] [] (hk 2 Oz (N4 (A4 a1 94) (A4 b1 94) (-1) (by omega)) <| hk0) v0 c0 ?_
       refine Ag ?_
       refine RK wR [(.int .i64 (Em (A4 a1 94) (A4 b1 94) (-1)))] ?_
       refine Same.of_eq ?_
       simp only [Aj]
       try simp only [List.take_length, List.drop_zero] at *
       rw [fl0_4, e0]
       congr 1
       symm
       unfold C4
       rw [if_neg (by simp [c1.1, c1.2]), if_pos c3, if_neg (by rcases c4 with h | h <;> simp [h]), if_neg (by simp [c5.1, c5.2])]
    ·try simp only [Al] at c3
     refine Ai ?_
     refine Ab ?_
     refine Ae (CS := [(4, ((!(decide (a1 = []))) = true → (!(decide (a1 = []))) = true)), (5, ((decide (a1 = [])) = false → (!(decide (a1 = []))) = true))]) [84, 85] [2, 3, 5, 7, 86] [] hk0 v0 (by refine cc _ ?_ <| cc _ ?_ c0 <;> simp) ?_
     refine A9 (q := (decide (a1 = [])) || (decide (b1 = []))) (by kernel_rfl) (fun c6 => ?_) (fun c6 => ?_)
     ·try simp only [Al] at c6
      refine Ae [] [4] [] (hk 4 R3 (Sj (a1.length : Int) (b1.length : Int)) <| hk0) v0 c0 ?_
      refine Ag ?_
      refine RK wR [(.int .i64 (Co (a1.length : Int) (b1.length : Int)))] ?_
      refine Same.of_eq ?_
      simp only [Aj]
      try simp only [List.take_length, List.drop_zero] at *
      rw [fl0_4, e0]
      congr 1
      symm
      unfold C4
      rw [if_neg (by simp [c1.1, c1.2]), if_neg (by simp [c3.1, c3.2]), if_pos c6]
     ·try simp only [Al] at c6
      have hpa := List.length_pos_iff.2 c6.1
      have hpb := List.length_pos_iff.2 c6.2
      refine Ai ?_
      refine Ab ?_
      refine Ae [] [2, 3, 5, 7, 94] [] (hk 2 Hk (H4 (Af a1 0)) <| hk0) v0 (cc 1 (p := (0 ≤ (0 : Int) ∧ 0 < a1.length)) (by omega) <| c0) ?_
      refine A9 (q := Ao (Af a1 0)) (by kernel_rfl) (fun c7 => ?_) (fun c7 => ?_)
      ·try simp only [Al] at c7
       refine Cg [] [2, 3, 5, 7, 12, 13] [] (hk 1 (al := [(.str a1), (.fn 148 [] [])]) Gx ((Ho a1 (.fn 148 [] []) Ao (by omega) (fun c => FunV.of (by exact Hk) (H4 c))).of_args (ImpL.cons Imp.refl (ImpL.cons (Imp.clo rfl) ImpL.nil))) <| hk 3 (al := [(.str b1), (.fn 148 [] [])]) Gx ((Ho b1 (.fn 148 [] []) Ao (by omega) (fun c => FunV.of (by exact Hk) (H4 c))).of_args (ImpL.cons Imp.refl (ImpL.cons (Imp.clo rfl) ImpL.nil))) <| hk0) v0 c0 ?_
       refine Ab ?_
       refine Aa [] [2, 3, 5, 7, 12, 13, 100] ?_
       refine A8 (p := (Ap Ao b1 : Int) = 0) (by kernel_rfl) (fun c8 => ?_) (fun c8 => ?_)
       ·refine Aa [] [4] ?_
        refine Ag ?_
        refine RK wR [(.int .i64 1)] ?_
        refine Same.of_eq ?_
        simp only [Aj]
        try simp only [List.take_length, List.drop_zero] at *
        rw [fl0_4, e0]
        congr 1
        symm
        unfold C4
        rw [if_neg (by simp [c1.1, c1.2]), if_neg (by simp [c3.1, c3.2]), if_neg (by simp [c6.1, c6.2]), if_pos c7, if_pos (by omega)]
       ·refine Ai ?_
        refine Ab ?_
        refine Cg (CS := [(2, (0 ≤ (0 : Int) ∧ (0 : Int) ≤ (Ap Ao a1 : Int) ∧ (Ap Ao a1 : Int) ≤ (a1.length : Int))), (5, (0 ≤ (0 : Int) ∧ (0 : Int) ≤ (Ap Ao b1 : Int) ∧ (Ap Ao b1 : Int) ≤ (b1.length : Int)))]) [] [2, 3, 5, 7, 12, 13, 14] [] (hk 6 R4 (Qw ((a1.take (Ap Ao a1)).drop 0) ((b1.take (Ap Ao b1)).drop 0)) <| hk0) v0 (by refine cc _ ?_ <| cc _ ?_ c0 <;> omega) ?_
        refine Aa [] [2, 3, 5, 7, 12, 13, 14, 109] ?_
        refine Cj (p := (Ci ((a1.take (Ap Ao a1)).drop 0) ((b1.take (Ap Ao b1)).drop 0)) = 0) (by kernel_rfl) (fun c9 => ?_) (fun c9 => ?_)
        ·refine Aa [] [4] ?_
         refine Ag ?_
         refine RK wR [(.int .i64 (Ci ((a1.take (Ap Ao a1)).drop 0) ((b1.take (Ap Ao b1)).drop 0)))] ?_
         refine Same.of_eq ?_
         simp only [Aj]
         try simp only [List.take_length, List.drop_zero] at *
         rw [fl0_4, e0]
         congr 1
         symm
         unfold C4
         rw [if_neg (by simp [c1.1, c1.2]), if_neg (by simp [c3.1, c3.2]), if_neg (by simp [c6.1, c6.2]), if_pos c7, if_neg (by omega), if_pos c9]
        ·refine Ai ?_
         refine Cg (CS := [(2, (0 ≤ (Ap Ao a1 : Int) ∧ (Ap Ao a1 : Int) ≤ (a1.length : Int) ∧ (a1.length : Int) ≤ (a1.length : Int))), (5, (0 ≤ (Ap Ao b1 : Int) ∧ (Ap Ao b1 : Int) ≤ (b1.length : Int) ∧ (b1.length : Int) ≤ (b1.length : Int)))]) [] [2, 3, 5, 7] [] hk0 v0 (by refine cc _ ?_ <| cc _ ?_ c0 <;> omega) ?_
         refine I4 ⟨rfl, _, (by kernel_rfl : gcS _ _ _ = some ⟨[(2, (.ptr 0 0)), (3, (.ptr 1 0)), (5, (.fn 197 [] [(.ptr 0 0), (.ptr 1 0)])), (7, (.fn 199 [] [(.fp (.agg [(.fn 198 [] [])]))]))], [(0, (.row [(.str ((a1.take a1.length).drop (Ap Ao a1)))] 9)), (1, (.row [(.str ((b1.take b1.length).drop (Ap Ao b1)))] 9))], 3⟩), _, ?_, k, ((a1.take a1.length).drop (Ap Ao a1)), ((b1.take b1.length).drop (Ap Ao b1)), ?_, ?_, ?_, ?_, (by kernel_rfl), rfl⟩
         all_goals (try simp only [List.take_length, List.drop_zero, List.length_drop] at *)
         have h3 := Mr (p := Ao) (s := a1) (by omega) (by simpa using c7)
         ·omega
         ·omega
         ·omega
         ·omega
         ·rw [fl0_4, e0]
          unfold C4
          rw [if_neg (by simp [c1.1, c1.2]), if_neg (by simp [c3.1, c3.2]), if_neg (by simp [c6.1, c6.2]), if_pos c7, if_neg (by omega), if_neg (fun q => q c9)]
      ·try simp only [Al] at c7
       refine Ai ?_
       refine Cg [] [2, 3, 5, 7, 15, 16] [] (hk 1 (al := [(.str a1), (.fn 149 [] [])]) Gx ((Ho a1 (.fn 149 [] []) Bv (by omega) (fun c => FunV.of (by exact Ld) (Mb c))).of_args (ImpL.cons Imp.refl (ImpL.cons (Imp.clo rfl) ImpL.nil))) <| hk 3 (al := [(.str b1), (.fn 149 [] [])]) Gx ((Ho b1 (.fn 149 [] []) Bv (by omega) (fun c => FunV.of (by exact Ld) (Mb c))).of_args (ImpL.cons Imp.refl (ImpL.cons (Imp.clo rfl) ImpL.nil))) <| hk0) v0 c0 ?_
       refine Ab ?_
       refine Aa [] [2, 3, 5, 7, 15, 16, 122] ?_
       refine A8 (p := (Ap Bv b1 : Int) = 0) (by kernel_rfl) (fun c10 => ?_) (fun c10 => ?_)
       ·refine Aa [] [4] ?_
        refine Ag ?_
        refine RK wR [(.int .i64 (-1))] ?_
        refine Same.of_eq ?_
        simp only [Aj]
        try simp only [List.take_length, List.drop_zero] at *
        rw [fl0_4, e0]
        congr 1
        symm
        unfold C4
        rw [if_neg (by simp [c1.1, c1.2]), if_neg (by simp [c3.1, c3.2]), if_neg (by simp [c6.1, c6.2]), if_neg (by simp [c7]), if_pos (by omega)]
       ·refine Ai ?_
        refine Ab ?_
        refine Cg (CS := [(2, (0 ≤ (0 : Int) ∧ (0 : Int) ≤ (Ap Bv a1 : Int) ∧ (Ap Bv a1 : Int) ≤ (a1.length : Int))), (5, (0 ≤ (0 : Int) ∧ (0 : Int) ≤ (Ap Bv b1 : Int) ∧ (Ap Bv b1 : Int) ≤ (b1.length : Int)))]) [] [2, 3, 5, 7, 15, 16, 17] [] (hk 6 Za (Q1v ((a1.take (Ap Bv a1)).drop 0) ((b1.take (Ap Bv b1)).drop 0)) <| hk0) v0 (by refine cc _ ?_ <| cc _ ?_ c0 <;> omega) ?_
        refine Aa [] [2, 3, 5, 7, 15, 16, 17, 131] ?_
        refine Cj (p := (Lib.compareBytes ((a1.take (Ap Bv a1)).drop 0) ((b1.take (Ap Bv b1)).drop 0)) = 0) (by kernel_rfl) (fun c11 => ?_) (fun c11 => ?_)
        ·refine Aa [] [4] ?_
         refine Ag ?_
         refine RK wR [(.int .i64 (Lib.compareBytes ((a1.take (Ap Bv a1)).drop 0) ((b1.take (Ap Bv b1)).drop 0)))] ?_
         refine Same.of_eq ?_
         simp only [Aj]
         try simp only [List.take_length, List.drop_zero] at *
         rw [fl0_4, e0]
         congr 1
         symm
         unfold C4
         rw [if_neg (by simp [c1.1, c1.2]), if_neg (by simp [c3.1, c3.2]), if_neg (by simp [c6.1, c6.2]), if_neg (by simp [c7]), if_neg (by omega), if_pos c11]
        ·refine Ai ?_
         refine Cg (CS := [(2, (0 ≤ (Ap Bv a1 : Int) ∧ (Ap Bv a1 : Int) ≤ (a1.length : Int) ∧ (a1.length : Int) ≤ (a1.length : Int))), (5, (0 ≤ (Ap Bv b1 : Int) ∧ (Ap Bv b1 : Int) ≤ (b1.length : Int) ∧ (b1.length : Int) ≤ (b1.length : Int)))]) [] [2, 3, 5, 7] [] hk0 v0 (by refine cc _ ?_ <| cc _ ?_ c0 <;> omega) ?_
         refine I4 ⟨rfl, _, (by kernel_rfl : gcS _ _ _ = some ⟨[(2, (.ptr 0 0)), (3, (.ptr 1 0)), (5, (.fn 197 [] [(.ptr 0 0), (.ptr 1 0)])), (7, (.fn 199 [] [(.fp (.agg [(.fn 198 [] [])]))]))], [(0, (.row [(.str ((a1.take a1.length).drop (Ap Bv a1)))] 9)), (1, (.row [(.str ((b1.take b1.length).drop (Ap Bv b1)))] 9))], 3⟩), _, ?_, k, ((a1.take a1.length).drop (Ap Bv a1)), ((b1.take b1.length).drop (Ap Bv b1)), ?_, ?_, ?_, ?_, (by kernel_rfl), rfl⟩
         all_goals (try simp only [List.take_length, List.drop_zero, List.length_drop] at *)
         have hml : Bv (Af a1 0) = true := by
          rcases hma with q | q
          ·exact absurd q c6.1
          ·exact Wz q (by omega) (by simp_all) (by simp_all) (by simp_all)
         have h3 := Mr (p := Bv) (s := a1) (by omega) hml
         ·omega
         ·omega
         ·omega
         ·omega
         ·rw [fl0_4, e0]
          unfold C4
          rw [if_neg (by simp [c1.1, c1.2]), if_neg (by simp [c3.1, c3.2]), if_neg (by simp [c6.1, c6.2]), if_neg (by simp [c7]), if_neg (by omega), if_neg (fun q => q c11)]
end Sv
end Go.Proofs.YtlfjokcbkopfeaaGreatDoor
end
