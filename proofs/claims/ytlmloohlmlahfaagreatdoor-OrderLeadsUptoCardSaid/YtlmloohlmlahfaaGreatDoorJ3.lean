/- The texts Pool4, Pool5, Pool6, Pool7, Prov1, CompI, Prov2, Prov3, Prov4, Prov5, Prov6, Prov7, Prov8, Evr2, Evr3, Evr4, Evr5, Evr6 of the proof, joined. Each says at its theorems what it proves. -/
import Derived.Test.YtlmloohlmlahfaaGreatDoorJ2
import Derived.Sort.OwnSortedInts
set_option linter.unusedSimpArgs false
set_option linter.unusedVariables false
section
namespace Go.Proofs.YtlmloohlmlahfaaGreatDoor
open Go Go.RowKit
namespace Sv
attribute [local irreducible] SW SO Bn
set_option maxHeartbeats 1000000
set_option maxRecDepth 100000
theorem X1h : Au Tryz.prog 11 := Ay Tryz.func11 (by kernel_rfl) rfl
theorem Q92 : Au Tryz.prog 47 := Ay Tryz.func47 (by kernel_rfl) rfl
theorem Q91 : Au Tryz.prog 48 := Ay Tryz.func48 (by kernel_rfl) rfl
noncomputable def Ba (r : RepoT) : AV := .agg [.str r.name, .int .i64 r.prio, .bool r.inst, .nils]
noncomputable def Bc (k : PkgT × Int) : AV := .agg [.str k.1.name, .str k.1.evr, .str k.1.arch, .str k.1.vendor, Dj k.1.provides, Dj k.1.requires, Dj k.1.pre, Dj k.1.conflicts, Dj k.1.obsoletes, Dj k.1.recommends, Dj k.1.supplements, C3 k.1.files, .int .i64 k.2]
structure PoolT where
 kind : Int
 repos : List RepoT
 all : List (PkgT × Int)
 deriving Inhabited
def Lq (l : List PkgT) : Int := match l.find? (fun p => decide (Dv p ≠ 0)) with
 | some p => Dv p
 | none => 0
def Ch (st : PoolT) (r : RepoT) : Int :=
 if Bp r.name = false ∨ st.repos.any (fun o => decide (o.name = r.name)) = true then 66
 else if r.inst = true ∧ st.repos.any (fun o => o.inst) = true then 67
 else if 8 ≤ st.repos.length ∨ 200 < st.all.length + r.pkgs.length then 68
 else Lq r.pkgs
def Ax (st : PoolT) (r : RepoT) (i : Nat) : List (PkgT × Int) := st.all ++ (r.pkgs.take i).map fun p => (p, (st.repos.length : Int))
def Cd (st : PoolT) (r : RepoT) : PoolT := if Ch st r = 0 then ⟨st.kind, st.repos ++ [r], Ax st r r.pkgs.length⟩ else st
def Mx (l : List (PkgT × Int)) (s : List UInt8) : List Nat := (List.range l.length).filter fun i => decide ((nth l i).1.name = s)
noncomputable def A9 (l : List (PkgT × Int)) (s : List UInt8) : List AV := (Mx l s).map fun (i : Nat) => AV.int .i64 (i : Int)
theorem Ip {st : PoolT} {r : RepoT} {e : Int} (h : Ch st r = e) (he : e ≠ 0) : Cd st r = st := by unfold Cd; rw [if_neg (by rw [h]; exact he)]
theorem Zn {l : List PkgT} (h : ∀ j, j < l.length → Dv (nth l j) = 0) : Lq l = 0 := by
 unfold Lq
 rw [List.find?_eq_none.2]
 intro x hx
 obtain ⟨j, hj, rfl⟩ := List.getElem_of_mem hx
 have := h j hj
 simpa [nth, hj] using this
theorem Sn : ∀ {l : List PkgT} {i : Nat}, i < l.length → (∀ j, j < i → Dv (nth l j) = 0) → Dv (nth l i) ≠ 0 → Lq l = Dv (nth l i)
 | [], _, h, _, _ => by simp at h
 | x :: r, 0, _, _, h => by
  have h : Dv x ≠ 0 := h
  unfold Lq; rw [List.find?_cons_of_pos (by simpa using h)]; rfl
 | x :: r, i + 1, hi, h, hp => by
  have h0 : Dv x = 0 := h 0 (by omega)
  have := Sn (l := r) (i := i) (by simpa using hi) (fun j hj => h (j + 1) (by omega)) hp
  unfold Lq at this ⊢
  rw [List.find?_cons_of_neg (by simp [h0])]; exact this
theorem Q8e {st : PoolT} {r : RepoT} {i : Nat} (h : i < r.pkgs.length) : Ax st r (i + 1) = Ax st r i ++ [(nth r.pkgs i, (st.repos.length : Int))] := by
 unfold Ax
 rw [List.take_add_one, List.getElem?_eq_getElem h, List.map_append, List.append_assoc]
 simp [nth, h]
theorem Q8f {st : PoolT} {r : RepoT} {i : Nat} : (Ax st r i).length ≤ st.all.length + i := by unfold Ax; simp; omega
theorem Xy (l : List (PkgT × Int)) (k : PkgT × Int) : Du (A9 l) k.1.name (A9 l k.1.name ++ [.int .i64 (l.length : Int)]) = A9 (l ++ [k]) := by
 funext s
 have e : Mx (l ++ [k]) s = Mx l s ++ (if k.1.name = s then [l.length] else []) := by
  unfold Mx
  rw [List.length_append, List.length_singleton, List.range_succ, List.filter_append]
  congr 1
  ·refine List.filter_congr fun i hi => ?_
   have : i < l.length := by simpa using hi
   have : nth (l ++ [k]) i = nth l i := by simp [nth, List.getElem?_append_left this]
   rw [this]
  ·have : nth (l ++ [k]) l.length = k := by simp [nth]
   by_cases h : k.1.name = s <;> simp [this, h]
 unfold Du A9
 rw [e]
 by_cases h : s = k.1.name
 ·subst h; rw [if_pos rfl, if_pos rfl, List.map_append]; rfl
 ·rw [if_neg h, if_neg (fun q => h q.symm), List.append_nil]
theorem Q7e (l : List (PkgT × Int)) (s : List UInt8) : (A9 l s).length ≤ l.length := by
 unfold A9 Mx
 rw [List.length_map]
 exact Nat.le_trans (List.length_filter_le _ _) (by simp)
theorem Q5h (l : List RepoT) (a : AV) (p : RepoT → Bool) (hl : l.length ≤ 4611686018427387904) (ha : ∀ i, i < l.length → FunV Tryz.prog a [(.agg [(.str ((nth l i).name)), (.int .i64 ((nth l i).prio)), (.bool ((nth l i).inst)), .nils])] (.bool (p (nth l i)))) :
  FnV Tryz.prog 101 [(Ac 4 Ba l), (.clo a)] (.int .i64 (Bz p l)) := by
 refine A4 [.tmp 4] Tryz.func101 rfl Tryz.ntmps101 rfl rfl (fun B F hF => ?_)
 refine Aa [] [0, 1] ?_
 refine Ad ?_
 refine Aa [] [0, 1, 7, 8] ?_
 refine A1 ?_
 refine Bv (fun g y => ∃ (i : Nat), i ≤ l.length ∧ (∀ j, j < i → p (nth l j) = false) ∧ y = ⟨[(0, (Ac 4 Ba l)), (1, (.clo a)), (7, (.int .i64 ((l.length : Int)))), (8, (.int .i64 ((i : Int))))], [], 0⟩ ∧ g = l.length - i) [0, 1, 7, 8] 0 _ (by omega) ⟨0, (by omega), (by exact fun j hj => by omega), (by kernel_rfl), rfl⟩ ?_
 rintro g1 y1 ⟨i, f1_1, f1_2, rfl, rfl⟩
 refine Aa [] [0, 1, 7, 8, 9] ?_
 refine Ad ?_
 refine A6 (p := (i : Int) < (l.length : Int)) (by kernel_rfl) (fun c1 => ?_) (fun c1 => ?_)
 ·refine Ai ?_
  refine Ad ?_
  refine A1 ?_
  refine Aa [] [0, 1, 5, 7, 8] ?_
  refine Ad ?_
  refine Ap ?_
  refine Bq 5 0 [] [0, 1, 5, 7, 8, 11, 15] [] hk0 v0 (cc 3 (p := (0 ≤ (i : Int) ∧ i < l.length)) (by omega) <| c0) ?_
  refine Fd (s' := [(0, (Ac 4 Ba l)), (1, (.clo a)), (5, (.int .i64 ((i : Int)))), (7, (.int .i64 ((l.length : Int)))), (8, (.int .i64 ((i : Int)))), (11, (.clo a)), (15, (.agg [(.str ((nth l i).name)), (.int .i64 ((nth l i).prio)), (.bool ((nth l i).inst)), .nils])), (16, (.bool (p (nth l i))))]) (a := (.clo a)) (al := [(.agg [(.str ((nth l i).name)), (.int .i64 ((nth l i).prio)), (.bool ((nth l i).inst)), .nils])]) (r := (.bool (p (nth l i)))) (by kernel_rfl) (by kernel_rfl) (by kernel_rfl) (by kernel_rfl) (by kernel_rfl) ((ha i (by omega)).clo) (by kernel_rfl) ?_
  refine Bx ?_
  refine Bd (q := p (nth l i)) (by kernel_rfl) (fun c2 => ?_) (fun c2 => ?_)
  ·try simp only [Ao] at c2
   refine Aa [] [4] ?_
   refine Ag ?_
   refine RK wR [(.int .i64 ((i : Int)))] ?_
   exact Same.of_eq (by rw [J6 (by omega) f1_2 (by simp_all)]; rfl)
  ·try simp only [Ao] at c2
   refine Ai ?_
   refine Ap ?_
   refine Av 0 [] [0, 1, 7, 8] [] hk0 v0 (cc 0 (p := (-9223372036854775808 ≤ (i : Int) + 1 ∧ (i : Int) + 1 ≤ 9223372036854775807)) (by omega) <| c0) ?_
   refine ⟨by kernel_rfl, _, ?_, i + 1, ?_, ?_, (by kernel_rfl), rfl⟩
   ·omega
   ·omega
   ·intro j hj
    by_cases h : j = i
    ·subst h; simp_all
    ·exact f1_2 j (by omega)
 ·refine Br ?_
  refine Aa [] [4] ?_
  refine Ag ?_
  refine RK wR [(.int .i64 (-1))] ?_
  exact Same.of_eq (by rw [J5 (fun j hj => f1_2 j (by omega))]; rfl)
theorem Vv (l : List RepoT) (a : AV) (p : RepoT → Bool) (hl : l.length ≤ 4611686018427387904) (ha : ∀ i, i < l.length → FunV Tryz.prog a [(.agg [(.str ((nth l i).name)), (.int .i64 ((nth l i).prio)), (.bool ((nth l i).inst)), .nils])] (.bool (p (nth l i)))) :
  FnV Tryz.prog 46 [(Ac 4 Ba l), (.clo a)] (.bool (l.any p)) := by
 refine A4 [.tmp 4] Tryz.func46 rfl Tryz.ntmps46 rfl rfl (fun B F hF => ?_)
 refine Aa [] [0, 1] ?_
 refine Ah [] [4] [] (hk 2 X1o (Q5h l a p hl ha) <| hk0) v0 c0 ?_
 refine Ag ?_
 refine RK wR [(.bool (decide (0 ≤ (Bz p l))))] ?_
 exact Same.of_eq (by simp only [Ak]; rw [J7])
theorem Q4z (o r : RepoT) :
  FnV Tryz.prog 47 [(.agg [(.str o.name), (.int .i64 o.prio), (.bool o.inst), .nils]), (.fp (.agg [(.str r.name), (.int .i64 r.prio), (.bool r.inst), (Ac 12 As r.pkgs)]))] (.bool (decide (o.name = r.name))) := by
 refine A4 [.tmp 3] Tryz.func47 rfl Tryz.ntmps47 rfl rfl (fun B F hF => ?_)
 refine Ah [] [1, 2] [(1, 2)] hk0 v0 c0 ?_
 refine Aa [] [3] ?_
 refine Ag ?_
 refine RK wR [(.bool (decide (o.name = r.name)))] ?_
 exact Same.of_eq (by first | rfl | (simp only [Ak]; simp_all))
theorem Q8l (o : RepoT) :
  FnV Tryz.prog 48 [(.agg [(.str o.name), (.int .i64 o.prio), (.bool o.inst), .nils])] (.bool o.inst) := by
 refine A4 [.tmp 2] Tryz.func48 rfl Tryz.ntmps48 rfl rfl (fun B F hF => ?_)
 refine Ah [] [1] [(1, 1)] hk0 v0 c0 ?_
 refine Aa [] [2] ?_
 refine Ag ?_
 refine RK wR [(.bool o.inst)] ?_
 exact Same.of_eq (by first | rfl | (simp only [Ak]; simp_all))
theorem X5j (st : PoolT) (r : RepoT) (hr : st.repos.length ≤ 8) (ha : st.all.length ≤ 200) (hn : r.name.length ≤ 4194304) (hpl : r.pkgs.length ≤ 4194304) (hp : ∀ i, i < r.pkgs.length → (nth r.pkgs i).size ≤ 4194304) :
  Fy Tryz.prog 11 [(.ptr 0 0), (.agg [(.str r.name), (.int .i64 r.prio), (.bool r.inst), (Ac 12 As r.pkgs)])] [(0, (.row [(.int .i64 st.kind), (.own 1), (.own 2), (.map 3)] 101)), (1, (.grow (st.repos.map Ba) 41 4)), (2, (.grow (st.all.map Bc) 106 13)), (3, (.mm (A9 st.all) none 3 1))] 4 (.int .i64 (Ch st r)) [(0, (.row [(.int .i64 ((Cd st r).kind)), (.own 1), (.own 2), (.map 3)] 101)), (1, (.grow ((Cd st r).repos.map Ba) 41 4)), (2, (.grow ((Cd st r).all.map Bc) 106 13)), (3, (.mm (A9 (Cd st r).all) none 3 1))] := by
 have hml : (st.repos.map Ba).length = st.repos.length := List.length_map _
 have hma : (st.all.map Bc).length = st.all.length := List.length_map _
 refine Kp [.tmp 4] Tryz.func11 rfl Tryz.ntmps11 rfl rfl (by kernel_rfl) (by kernel_rfl) (by kernel_rfl) (fun B F hF => ?_)
 refine Aa [] [0, 3] ?_
 refine Ad ?_
 refine A1 ?_
 refine Aa [] [0, 3, 10] ?_
 refine Ei (by kernel_rfl) ?_
 refine Ad ?_
 refine Ap ?_
 obtain ⟨b2, hb2⟩ : ∃ b, b = (!(Bp r.name)) := ⟨_, rfl⟩
 refine Bq (CS := [(6, ((!b2) = true → (!b2) = true)), (7, ((!b2) = true → (!b2) = true)), (8, ((!b2) = true → (!b2) = true))]) 10 0 [19, 20, 21, 22, 23] [0, 3, 18, 22, 23] [] (hk 2 Nh (Qk r.name (by omega)) <| hk0) (vk 5 18 (a := .bool (!(Bp r.name))) (b := .bool b2) (Imp.of_eq (by rw [hb2])) <| v0) (by refine cc _ ?_ <| cc _ ?_ <| cc _ ?_ c0 <;> simp) ?_
 refine Ub (s' := [(0, (.ptr 0 0)), (3, (.ptr 4 0)), (18, (.bool b2)), (22, (.cond (!b2) (.own 1))), (23, (.cond (!b2) (.fn 47 [] [(.ptr 4 0)]))), (24, (.cond (!b2) (.bool (st.repos.any (fun o => decide (o.name = r.name))))))]) (q := !b2) (al := [(.own 1), (.fn 47 [] [(.ptr 4 0)])]) (al' := [(.row 4 (st.repos.map Ba).length (fun ix => (st.repos.map Ba).getD ix Bm)), (.fn 47 [] [(.fp (.agg [(.str r.name), (.int .i64 r.prio), (.bool r.inst), (Ac 12 As r.pkgs)]))])]) (h' := [(0, (.row [(.int .i64 st.kind), (.own 1), (.own 2), (.map 3)] 101)), (2, (.grow (st.all.map Bc) 106 13)), (3, (.mm (A9 st.all) none 3 1))]) (r := (.bool (st.repos.any (fun o => decide (o.name = r.name))))) (by kernel_rfl) (by exact Z6) (by kernel_rfl) (O3 (some ((!b2) = true ∧ (!b2) = true)) (by kernel_rfl) fun cg => hold (by (intros; simp_all; done))) (by kernel_rfl) (fun cg => (Vv st.repos (.fn 47 [] [.fp (.agg [(.str r.name), (.int .i64 r.prio), (.bool r.inst), (Ac 12 As r.pkgs)])]) (fun o => decide (o.name = r.name)) (by omega) (fun i hi => FunV.of (by exact Q92) (Q4z (nth st.repos i) r))).of_args (ImpL.cons (Imp.list (f := Ba) (List.length_map _)) (ImpL.cons (Imp.clo (by kernel_rfl)) ImpL.nil))) rfl (by kernel_rfl) ?_
 obtain ⟨b3, hb3⟩ : ∃ b, b = (b2 || (st.repos.any (fun o => decide (o.name = r.name)))) := ⟨_, rfl⟩
 refine Av 11 [] [0, 3, 13] [] hk0 (vk 12 25 (a := .bool (b2 || (st.repos.any (fun o => decide (o.name = r.name))))) (b := .bool b3) (Imp.of_eq (by rw [hb3])) <| v0) (cc 11 (p := (b2 = false → (!b2) = true)) (by simp) <| c0) ?_
 refine Bd (q := b3) (by kernel_rfl) (fun c1 => ?_) (fun c1 => ?_)
 ·subst hb3 hb2
  try simp only [Ao] at c1
  refine Aa [] [4] ?_
  refine Ag ?_
  refine D7 (.inl rfl) (al := [(.int .i64 66)]) (by kernel_rfl) ?_ ((by kernel_rfl : Dc 4 _ = some [(0, (.row [(.int .i64 st.kind), (.own 1), (.own 2), (.map 3)] 101)), (1, (.grow (st.repos.map Ba) 41 4)), (2, (.grow (st.all.map Bc) 106 13)), (3, (.mm (A9 st.all) none 3 1))]).trans ?_)
  all_goals have hE : Ch st r = 66 := by unfold Ch; rw [if_pos c1]
  ·rw [hE]; rfl
  ·rw [Ip hE (by decide)]
 ·subst hb3 hb2
  try simp only [Ao] at c1
  refine Ad ?_
  refine Ap ?_
  refine Bq (CS := [(4, (r.inst = true → r.inst = true)), (5, (r.inst = true → r.inst = true)), (6, (r.inst = true → r.inst = true))]) 7 0 [30, 31, 32, 33] [0, 3, 29, 33] [] hk0 v0 (by refine cc _ ?_ <| cc _ ?_ <| cc _ ?_ c0 <;> simp) ?_
  refine Ub (s' := [(0, (.ptr 0 0)), (3, (.ptr 4 0)), (29, (.bool r.inst)), (33, (.cond r.inst (.own 1))), (34, (.cond r.inst (.bool (st.repos.any (fun o => o.inst)))))]) (q := r.inst) (al := [(.own 1), (.fn 48 [] [])]) (al' := [(.row 4 (st.repos.map Ba).length (fun ix => (st.repos.map Ba).getD ix Bm)), (.fn 48 [] [])]) (h' := [(0, (.row [(.int .i64 st.kind), (.own 1), (.own 2), (.map 3)] 101)), (2, (.grow (st.all.map Bc) 106 13)), (3, (.mm (A9 st.all) none 3 1)), (4, (.row [(.str r.name), (.int .i64 r.prio), (.bool r.inst), (Ac 12 As r.pkgs)] 41))]) (r := (.bool (st.repos.any (fun o => o.inst)))) (by kernel_rfl) (by exact Z6) (by kernel_rfl) (O3 (some (r.inst = true)) (by kernel_rfl) fun cg => hold (by omega)) (by kernel_rfl) (fun cg => (Vv st.repos (.fn 48 [] []) (fun o => o.inst) (by omega) (fun i hi => FunV.of (by exact Q91) (Q8l (nth st.repos i)))).of_args (ImpL.cons (Imp.list (f := Ba) (List.length_map _)) (ImpL.cons (Imp.clo (by kernel_rfl)) ImpL.nil))) rfl (by kernel_rfl) ?_
  refine Av 8 [] [0, 3, 26] [] hk0 v0 (cc 8 (p := (r.inst = true → r.inst = true)) (by simp) <| c0) ?_
  refine Bd (q := r.inst && (st.repos.any (fun o => o.inst))) (by kernel_rfl) (fun c2 => ?_) (fun c2 => ?_)
  ·try simp only [Ao] at c2
   refine Aa [] [4] ?_
   refine Ag ?_
   refine D7 (.inl rfl) (al := [(.int .i64 67)]) (by kernel_rfl) ?_ ((by kernel_rfl : Dc 4 _ = some [(0, (.row [(.int .i64 st.kind), (.own 1), (.own 2), (.map 3)] 101)), (1, (.grow (st.repos.map Ba) 41 4)), (2, (.grow (st.all.map Bc) 106 13)), (3, (.mm (A9 st.all) none 3 1))]).trans ?_)
   all_goals have hE : Ch st r = 67 := by unfold Ch; rw [if_neg (by simp only [not_or]; simp_all), if_pos (by simp_all)]
   ·rw [hE]; rfl
   ·rw [Ip hE (by decide)]
  ·try simp only [Ao] at c2
   refine Dt (fun y => y = ⟨[(0, (.ptr 0 0)), (3, (.ptr 4 0)), (36, (.bool (decide ((8 : Int) ≤ ((st.repos.map Ba).length : Int)) || decide ((200 : Int) < ((st.all.map Bc).length : Int) + (r.pkgs.length : Int)))))], [(0, (.row [(.int .i64 st.kind), (.own 1), (.own 2), (.map 3)] 101)), (1, (.grow (st.repos.map Ba) 41 4)), (2, (.grow (st.all.map Bc) 106 13)), (3, (.mm (A9 st.all) none 3 1)), (4, (.row [(.str r.name), (.int .i64 r.prio), (.bool r.inst), (Ac 12 As r.pkgs)] 41))], 5⟩) [0, 3, 36] 5 (by omega) ?_ ?_
   ·refine Gy (CS := [(8, ((!(decide (8 ≤ ((st.repos.map Ba).length : Int)))) = true → (!(decide (8 ≤ ((st.repos.map Ba).length : Int)))) = true)), (9, ((!(decide (8 ≤ ((st.repos.map Ba).length : Int)))) = true → (!(decide (8 ≤ ((st.repos.map Ba).length : Int)))) = true)), (10, ((!(decide (8 ≤ ((st.repos.map Ba).length : Int)))) = true → (!(decide (8 ≤ ((st.repos.map Ba).length : Int)))) = true)), (11, ((!(decide (8 ≤ ((st.repos.map Ba).length : Int)))) = true → (!(decide (8 ≤ ((st.repos.map Ba).length : Int)))) = true)), (13, ((!(decide (8 ≤ ((st.repos.map Ba).length : Int)))) = true → (!(decide (8 ≤ ((st.repos.map Ba).length : Int)))) = true)), (14, ((!(decide (8 ≤ ((st.repos.map Ba).length : Int)))) = true → (!(decide (8 ≤ ((st.repos.map Ba).length : Int)))) = true)), (15, ((!(decide (8 ≤ ((st.repos.map Ba).length : Int)))) = true → ((!(decide (8 ≤ ((st.repos.map Ba).length : Int)))) = true ∧ (!(decide (8 ≤ ((st.repos.map Ba).length : Int)))) = true) ∧ (-9223372036854775808 ≤ ((st.all.map Bc).length : Int) + (r.pkgs.length : Int) ∧ ((st.all.map Bc).length : Int) + (r.pkgs.length : Int) ≤ 9223372036854775807))), (16, ((!(decide (8 ≤ ((st.repos.map Ba).length : Int)))) = true → (!(decide (8 ≤ ((st.repos.map Ba).length : Int)))) = true)), (17, ((decide (8 ≤ ((st.repos.map Ba).length : Int))) = false → (!(decide (8 ≤ ((st.repos.map Ba).length : Int)))) = true))]) [44, 45, 46, 47, 48, 49, 50, 51, 52, 53] [0, 3, 36] [] hk0 v0 (by refine cc _ ?_ <| cc _ ?_ <| cc _ ?_ <| cc _ ?_ <| cc _ ?_ <| cc _ ?_ <| cc _ ?_ <| cc _ ?_ <| cc _ ?_ c0 <;> first | omega | (simp; omega) | (simp; done) | (intros; simp_all; omega) | (intros; simp_all; done)) ?_
    refine ⟨by kernel_rfl, (by kernel_rfl)⟩
   ·rintro y1 rfl
    refine Bd (q := decide ((8 : Int) ≤ ((st.repos.map Ba).length : Int)) || decide ((200 : Int) < ((st.all.map Bc).length : Int) + (r.pkgs.length : Int))) (by kernel_rfl) (fun c3 => ?_) (fun c3 => ?_)
    ·try simp only [Ao] at c3
     refine Aa [] [4] ?_
     refine Ag ?_
     refine D7 (.inl rfl) (al := [(.int .i64 68)]) (by kernel_rfl) ?_ ((by kernel_rfl : Dc 4 _ = some [(0, (.row [(.int .i64 st.kind), (.own 1), (.own 2), (.map 3)] 101)), (1, (.grow (st.repos.map Ba) 41 4)), (2, (.grow (st.all.map Bc) 106 13)), (3, (.mm (A9 st.all) none 3 1))]).trans ?_)
     all_goals have hE : Ch st r = 68 := by unfold Ch; rw [if_neg (by simp only [not_or]; simp_all), if_neg (by rintro ⟨h1, h2⟩; rw [h1, h2] at c2; simp at c2), if_pos (by omega)]
     ·rw [hE]; rfl
     ·rw [Ip hE (by decide)]
    ·try simp only [Ao] at c3
     refine Ai ?_
     refine Ad ?_
     refine Aa [] [0, 3, 56, 57, 58] ?_
     refine A1 ?_
     refine Bv (fun g y => ∃ (i : Nat), i ≤ r.pkgs.length ∧ (∀ j, j < i → Dv (nth r.pkgs j) = 0) ∧ y = ⟨[(0, (.ptr 0 0)), (3, (.ptr 4 0)), (56, (Ac 12 As r.pkgs)), (57, (.int .i64 ((r.pkgs.length : Int)))), (58, (.int .i64 ((i : Int))))], [(0, (.row [(.int .i64 st.kind), (.own 1), (.own 2), (.map 3)] 101)), (1, (.grow (st.repos.map Ba) 41 4)), (2, (.grow (st.all.map Bc) 106 13)), (3, (.mm (A9 st.all) none 3 1)), (4, (.row [(.str r.name), (.int .i64 r.prio), (.bool r.inst), (Ac 12 As r.pkgs)] 41))], 5⟩ ∧ g = r.pkgs.length - i) [0, 3, 56, 57, 58] 5 _ (by omega) ⟨0, (by omega), (by exact fun j hj => by omega), (by kernel_rfl), rfl⟩ ?_
     rintro g1 y1 ⟨i, f1_1, f1_2, rfl, rfl⟩
     refine Aa [] [0, 3, 56, 57, 58, 59] ?_
     refine Ad ?_
     refine A6 (p := (i : Int) < (r.pkgs.length : Int)) (by kernel_rfl) (fun c4 => ?_) (fun c4 => ?_)
     ·refine Ai ?_
      refine Ad ?_
      refine A1 ?_
      refine Ah [] [0, 3, 6, 56, 57, 58] [] hk0 v0 (cc 0 (p := (0 ≤ (i : Int) ∧ i < r.pkgs.length)) (by omega) <| c0) ?_
      refine Ah [] [0, 3, 7, 56, 57, 58] [(0, 6)] (hk 1 Q90 (X5i (nth r.pkgs i) (hp i (by omega))) <| hk0) v0 c0 ?_
      refine Aa [] [0, 3, 7, 56, 57, 58, 65] ?_
      refine Da (p := (Dv (nth r.pkgs i)) = 0) (by kernel_rfl) (fun c5 => ?_) (fun c5 => ?_)
      ·refine Aa [] [4] ?_
       refine Ag ?_
       refine D7 (.inl rfl) (al := [(.int .i64 (Dv (nth r.pkgs i)))]) (by kernel_rfl) ?_ ((by kernel_rfl : Dc 4 _ = some [(0, (.row [(.int .i64 st.kind), (.own 1), (.own 2), (.map 3)] 101)), (1, (.grow (st.repos.map Ba) 41 4)), (2, (.grow (st.all.map Bc) 106 13)), (3, (.mm (A9 st.all) none 3 1))]).trans ?_)
       all_goals have hE : Ch st r = Dv (nth r.pkgs i) := by unfold Ch; rw [if_neg (by simp only [not_or]; simp_all), if_neg (by rintro ⟨h1, h2⟩; rw [h1, h2] at c2; simp at c2), if_neg (by omega)]; exact Sn (by omega) f1_2 (by assumption)
       ·rw [hE]; rfl
       ·rw [Ip hE (by assumption)]
      ·refine Ai ?_
       refine Ap ?_
       refine Av 0 [] [0, 3, 56, 57, 58] [] hk0 v0 (cc 0 (p := (-9223372036854775808 ≤ (i : Int) + 1 ∧ (i : Int) + 1 ≤ 9223372036854775807)) (by omega) <| c0) ?_
       refine ⟨by kernel_rfl, _, ?_, i + 1, ?_, ?_, (by kernel_rfl), rfl⟩
       ·omega
       ·omega
       ·intro j hj
        by_cases h : j = i
        ·subst h; simp_all
        ·exact f1_2 j (by omega)
     ·refine Br ?_
      refine Ad ?_
      refine Aa [] [0, 3, 69, 70, 71] ?_
      refine A1 ?_
      refine Bv (fun g y => ∃ (i : Nat), i ≤ r.pkgs.length ∧ y = ⟨[(0, (.ptr 0 0)), (3, (.ptr 4 0)), (69, (Ac 12 As r.pkgs)), (70, (.int .i64 ((r.pkgs.length : Int)))), (71, (.int .i64 ((i : Int))))], [(0, (.row [(.int .i64 st.kind), (.own 1), (.own 2), (.map 3)] 101)), (1, (.grow (st.repos.map Ba) 41 4)), (2, (.grow ((Ax st r i).map Bc) 106 13)), (3, (.mm (A9 (Ax st r i)) none 3 1)), (4, (.row [(.str r.name), (.int .i64 r.prio), (.bool r.inst), (Ac 12 As r.pkgs)] 41))], 5⟩ ∧ g = r.pkgs.length - i) [0, 3, 69, 70, 71] 5 _ (by omega) ⟨0, (by omega), (Eq.trans (b := (⟨[(0, (.ptr 0 0)), (3, (.ptr 4 0)), (69, (Ac 12 As r.pkgs)), (70, (.int .i64 ((r.pkgs.length : Int)))), (71, (.int .i64 0))], [(0, (.row [(.int .i64 st.kind), (.own 1), (.own 2), (.map 3)] 101)), (1, (.grow (st.repos.map Ba) 41 4)), (2, (.grow (st.all.map Bc) 106 13)), (3, (.mm (A9 st.all) none 3 1)), (4, (.row [(.str r.name), (.int .i64 r.prio), (.bool r.inst), (Ac 12 As r.pkgs)] 41))], 5⟩ : St)) (by kernel_rfl) (by rw [show Ax st r 0 = st.all from by simp [Ax]] <;> rfl)), rfl⟩ ?_
      rintro g2 y2 ⟨i, f2_1, rfl, rfl⟩
      have hkl : ((Ax st r i).map Bc).length ≤ 200 := by have := Q8f (st := st) (r := r) (i := i); rw [List.length_map]; omega
      have hgl : (A9 (Ax st r i) (nth r.pkgs i).name).length ≤ 200 := Nat.le_trans (Q7e _ _) (by rwa [List.length_map] at hkl)
      refine Aa [] [0, 3, 69, 70, 71, 72] ?_
      refine Ad ?_
      refine A6 (p := (i : Int) < (r.pkgs.length : Int)) (by kernel_rfl) (fun c6 => ?_) (fun c6 => ?_)
      ·refine Ai ?_
       refine Dt (fun y => y = ⟨[(0, (.ptr 0 0)), (3, (.ptr 4 0)), (69, (Ac 12 As r.pkgs)), (70, (.int .i64 ((r.pkgs.length : Int)))), (71, (.int .i64 ((i : Int))))], [(0, (.row [(.int .i64 st.kind), (.own 1), (.own 2), (.map 3)] 101)), (1, (.grow (st.repos.map Ba) 41 4)), (2, (.grow ((Ax st r i ++ [(nth r.pkgs i, (st.repos.length : Int))]).map Bc) 106 13)), (3, (.mm (A9 (Ax st r i ++ [(nth r.pkgs i, (st.repos.length : Int))])) none 3 1)), (4, (.row [(.str r.name), (.int .i64 r.prio), (.bool r.inst), (Ac 12 As r.pkgs)] 41))], 5⟩) [0, 3, 69, 70, 71] 5 (by omega) ?_ ?_
       ·refine A1 ?_
        refine Ah [] [0, 3, 9, 69, 70, 71] [] hk0 v0 (cc 0 (p := (0 ≤ (i : Int) ∧ i < r.pkgs.length)) (by omega) <| c0) ?_
        refine Qe 9 (y := ⟨[(0, (.ptr 0 0)), (3, (.ptr 4 0)), (9, (.fp (As (nth r.pkgs i)))), (69, (Ac 12 As r.pkgs)), (70, (.int .i64 ((r.pkgs.length : Int)))), (71, (.int .i64 ((i : Int))))], [(0, (.row [(.int .i64 st.kind), (.own 1), (.own 2), (.map 3)] 101)), (1, (.grow (st.repos.map Ba) 41 4)), (2, (.grow ((Ax st r i).map Bc) 106 13)), (3, (.mm (A9 (Ax st r i)) none 3 1)), (4, (.row [(.str r.name), (.int .i64 r.prio), (.bool r.inst), (Ac 12 As r.pkgs)] 41))], 6⟩) (by kernel_rfl) ?_
        refine Dt (fun y => y = ⟨[(0, (.ptr 0 0)), (3, (.ptr 4 0)), (9, (.fp (As (nth r.pkgs i)))), (69, (Ac 12 As r.pkgs)), (70, (.int .i64 ((r.pkgs.length : Int)))), (71, (.int .i64 ((i : Int))))], [(0, (.row [(.int .i64 st.kind), (.own 1), (.own 2), (.map 3)] 101)), (1, (.grow (st.repos.map Ba) 41 4)), (2, (.grow ((Ax st r i).map Bc) 106 13)), (3, (.mm (A9 (Ax st r i ++ [(nth r.pkgs i, (st.repos.length : Int))])) none 3 1)), (4, (.row [(.str r.name), (.int .i64 r.prio), (.bool r.inst), (Ac 12 As r.pkgs)] 41))], 6⟩) [0, 3, 9, 69, 70, 71] 6 (by omega) ?_ ?_
        ·refine It (by kernel_rfl) (fun F1 hF1 => ?_)
         refine Ci false 1 (lsD 21 [0, 1, 2, 3, 4, 5, 6, 7, 8, 9, 10, 11, 12, 13, 14, 15, 16, 17, 18, 19]) ⟨[(0, (.ptr 0 0)), (3, (.ptr 4 0)), (9, (.fp (As (nth r.pkgs i)))), (69, (Ac 12 As r.pkgs)), (70, (.int .i64 ((r.pkgs.length : Int)))), (71, (.int .i64 ((i : Int)))), (78, (.map 3)), (80, (.str ((nth r.pkgs i).name))), (94, (.own 6))], [(0, (.row [(.int .i64 st.kind), (.own 1), (.own 2), (.map 3)] 101)), (1, (.grow (st.repos.map Ba) 41 4)), (2, (.grow ((Ax st r i).map Bc) 106 13)), (3, (.mm (A9 (Ax st r i)) (some ((nth r.pkgs i).name)) 3 1)), (4, (.row [(.str r.name), (.int .i64 r.prio), (.bool r.inst), (Ac 12 As r.pkgs)] 41)), (6, (.grow (((A9 (Ax st r i)) ((nth r.pkgs i).name)) ++ ([(.int .i64 ((((Ax st r i).map Bc).length : Int)))] : List AV)) 3 1)), (7, (.row [(.int .i64 ((((Ax st r i).map Bc).length : Int)))] 3))], 8⟩ ?_ (fun m1_1 => ?_)
         ·refine Fx (fuel := 0) 20 (by kernel_rfl) ?_
          refine Db (fuel := 0) 20 rfl ?_
          refine Qh (b := 3) (c := 6) (s := (nth r.pkgs i).name) (s1 := (nth r.pkgs i).name) (y := ⟨[(0, (.ptr 0 0)), (3, (.ptr 4 0)), (9, (.fp (As (nth r.pkgs i)))), (69, (Ac 12 As r.pkgs)), (70, (.int .i64 ((r.pkgs.length : Int)))), (71, (.int .i64 ((i : Int)))), (78, (.map 3)), (80, (.str ((nth r.pkgs i).name))), (94, (.own 6))], [(0, (.row [(.int .i64 st.kind), (.own 1), (.own 2), (.map 3)] 101)), (1, (.grow (st.repos.map Ba) 41 4)), (2, (.grow ((Ax st r i).map Bc) 106 13)), (3, (.mm (Du (A9 (Ax st r i)) ((nth r.pkgs i).name) (((A9 (Ax st r i)) ((nth r.pkgs i).name)) ++ ([(.int .i64 ((((Ax st r i).map Bc).length : Int)))] : List AV))) none 3 1)), (4, (.row [(.str r.name), (.int .i64 r.prio), (.bool r.inst), (Ac 12 As r.pkgs)] 41)), (7, (.row [(.int .i64 ((((Ax st r i).map Bc).length : Int)))] 3))], 8⟩) (by kernel_rfl) (by kernel_rfl) (by kernel_rfl) (by kernel_rfl) (by kernel_rfl) rfl Tryz.underlying99 Tryz.underlying9 (by kernel_rfl) rfl ?_
          refine Bx ⟨rfl, ?_⟩
          refine Az [0, 3, 9, 69, 70, 71] ?_
          refine Gi (by kernel_rfl) ?_
          refine ⟨by kernel_rfl, (Eq.trans (b := (⟨[(0, (.ptr 0 0)), (3, (.ptr 4 0)), (9, (.fp (As (nth r.pkgs i)))), (69, (Ac 12 As r.pkgs)), (70, (.int .i64 ((r.pkgs.length : Int)))), (71, (.int .i64 ((i : Int))))], [(0, (.row [(.int .i64 st.kind), (.own 1), (.own 2), (.map 3)] 101)), (1, (.grow (st.repos.map Ba) 41 4)), (2, (.grow ((Ax st r i).map Bc) 106 13)), (3, (.mm (Du (A9 (Ax st r i)) ((nth r.pkgs i).name) (((A9 (Ax st r i)) ((nth r.pkgs i).name)) ++ ([(.int .i64 ((((Ax st r i).map Bc).length : Int)))] : List AV))) none 3 1)), (4, (.row [(.str r.name), (.int .i64 r.prio), (.bool r.inst), (Ac 12 As r.pkgs)] 41))], 6⟩ : St)) (by kernel_rfl) (by rw [show (Du (A9 (Ax st r i)) ((nth r.pkgs i).name) (((A9 (Ax st r i)) ((nth r.pkgs i).name)) ++ ([(.int .i64 ((((Ax st r i).map Bc).length : Int)))] : List AV))) = A9 (Ax st r i ++ [(nth r.pkgs i, (st.repos.length : Int))]) from by (try rw [List.length_map]); exact Xy (Ax st r i) (nth r.pkgs i, (st.repos.length : Int))] <;> kernel_rfl))⟩
         refine Ci false 1 (lsD 21 [0, 1, 2, 3, 4, 5, 6, 7, 8, 9, 10, 11, 12, 13, 14, 15, 16, 17, 18, 19]) ⟨[(0, (.ptr 0 0)), (3, (.ptr 4 0)), (9, (.fp (As (nth r.pkgs i)))), (69, (Ac 12 As r.pkgs)), (70, (.int .i64 ((r.pkgs.length : Int)))), (71, (.int .i64 ((i : Int)))), (78, (.map 3)), (80, (.str ((nth r.pkgs i).name))), (94, (.own 7))], [(0, (.row [(.int .i64 st.kind), (.own 1), (.own 2), (.map 3)] 101)), (1, (.grow (st.repos.map Ba) 41 4)), (2, (.grow ((Ax st r i).map Bc) 106 13)), (3, (.mm (A9 (Ax st r i)) (some ((nth r.pkgs i).name)) 3 1)), (4, (.row [(.str r.name), (.int .i64 r.prio), (.bool r.inst), (Ac 12 As r.pkgs)] 41)), (6, (.row [(.int .i64 ((((Ax st r i).map Bc).length : Int)))] 3)), (7, (.grow (((A9 (Ax st r i)) ((nth r.pkgs i).name)) ++ ([(.int .i64 ((((Ax st r i).map Bc).length : Int)))] : List AV)) 3 1))], 8⟩ ?_ (fun m1_2 => ?_)
         ·refine Fx (fuel := 0) 20 (by kernel_rfl) ?_
          refine Db (fuel := 0) 20 rfl ?_
          refine Qh (b := 3) (c := 7) (s := (nth r.pkgs i).name) (s1 := (nth r.pkgs i).name) (y := ⟨[(0, (.ptr 0 0)), (3, (.ptr 4 0)), (9, (.fp (As (nth r.pkgs i)))), (69, (Ac 12 As r.pkgs)), (70, (.int .i64 ((r.pkgs.length : Int)))), (71, (.int .i64 ((i : Int)))), (78, (.map 3)), (80, (.str ((nth r.pkgs i).name))), (94, (.own 7))], [(0, (.row [(.int .i64 st.kind), (.own 1), (.own 2), (.map 3)] 101)), (1, (.grow (st.repos.map Ba) 41 4)), (2, (.grow ((Ax st r i).map Bc) 106 13)), (3, (.mm (Du (A9 (Ax st r i)) ((nth r.pkgs i).name) (((A9 (Ax st r i)) ((nth r.pkgs i).name)) ++ ([(.int .i64 ((((Ax st r i).map Bc).length : Int)))] : List AV))) none 3 1)), (4, (.row [(.str r.name), (.int .i64 r.prio), (.bool r.inst), (Ac 12 As r.pkgs)] 41)), (6, (.row [(.int .i64 ((((Ax st r i).map Bc).length : Int)))] 3))], 8⟩) (by kernel_rfl) (by kernel_rfl) (by kernel_rfl) (by kernel_rfl) (by kernel_rfl) rfl Tryz.underlying99 Tryz.underlying9 (by kernel_rfl) rfl ?_
          refine Bx ⟨rfl, ?_⟩
          refine Az [0, 3, 9, 69, 70, 71] ?_
          refine Gi (by kernel_rfl) ?_
          refine ⟨by kernel_rfl, (Eq.trans (b := (⟨[(0, (.ptr 0 0)), (3, (.ptr 4 0)), (9, (.fp (As (nth r.pkgs i)))), (69, (Ac 12 As r.pkgs)), (70, (.int .i64 ((r.pkgs.length : Int)))), (71, (.int .i64 ((i : Int))))], [(0, (.row [(.int .i64 st.kind), (.own 1), (.own 2), (.map 3)] 101)), (1, (.grow (st.repos.map Ba) 41 4)), (2, (.grow ((Ax st r i).map Bc) 106 13)), (3, (.mm (Du (A9 (Ax st r i)) ((nth r.pkgs i).name) (((A9 (Ax st r i)) ((nth r.pkgs i).name)) ++ ([(.int .i64 ((((Ax st r i).map Bc).length : Int)))] : List AV))) none 3 1)), (4, (.row [(.str r.name), (.int .i64 r.prio), (.bool r.inst), (Ac 12 As r.pkgs)] 41))], 6⟩ : St)) (by kernel_rfl) (by rw [show (Du (A9 (Ax st r i)) ((nth r.pkgs i).name) (((A9 (Ax st r i)) ((nth r.pkgs i).name)) ++ ([(.int .i64 ((((Ax st r i).map Bc).length : Int)))] : List AV))) = A9 (Ax st r i ++ [(nth r.pkgs i, (st.repos.length : Int))]) from by (try rw [List.length_map]); exact Xy (Ax st r i) (nth r.pkgs i, (st.repos.length : Int))] <;> kernel_rfl))⟩
         refine Ci false 2 (lsD 21 [0, 1, 2, 3, 4, 5, 6, 7, 8, 9, 10, 11, 12, 13, 14, 15, 16, 17, 18]) ⟨[(0, (.ptr 0 0)), (3, (.ptr 4 0)), (9, (.fp (As (nth r.pkgs i)))), (69, (Ac 12 As r.pkgs)), (70, (.int .i64 ((r.pkgs.length : Int)))), (71, (.int .i64 ((i : Int)))), (78, (.map 3)), (80, (.str ((nth r.pkgs i).name))), (87, (.own 6)), (93, (.sl 7 0 1 1 false))], [(0, (.row [(.int .i64 st.kind), (.own 1), (.own 2), (.map 3)] 101)), (1, (.grow (st.repos.map Ba) 41 4)), (2, (.grow ((Ax st r i).map Bc) 106 13)), (3, (.mm (A9 (Ax st r i)) (some ((nth r.pkgs i).name)) 3 1)), (4, (.row [(.str r.name), (.int .i64 r.prio), (.bool r.inst), (Ac 12 As r.pkgs)] 41)), (6, (.grow ((A9 (Ax st r i)) ((nth r.pkgs i).name)) 3 1)), (7, (.row [(.int .i64 ((((Ax st r i).map Bc).length : Int)))] 3))], 8⟩ ?_ (fun m1_3 => ?_)
         ·refine Cz (fuel := 1) 19 [] (hold (p := ((((A9 (Ax st r i)) ((nth r.pkgs i).name)).length + 1) * 8 ≤ 140737488355328)) (by omega)) ?_
          refine Az [0, 3, 9, 69, 70, 71, 78, 80, 94] ?_
          exact Be m1_1
         refine Ci false 2 (lsD 21 [0, 1, 2, 3, 4, 5, 6, 7, 8, 9, 10, 11, 12, 13, 14, 15, 16, 17, 18]) ⟨[(0, (.ptr 0 0)), (3, (.ptr 4 0)), (9, (.fp (As (nth r.pkgs i)))), (69, (Ac 12 As r.pkgs)), (70, (.int .i64 ((r.pkgs.length : Int)))), (71, (.int .i64 ((i : Int)))), (78, (.map 3)), (80, (.str ((nth r.pkgs i).name))), (87, (.own 7)), (93, (.sl 6 0 1 1 false))], [(0, (.row [(.int .i64 st.kind), (.own 1), (.own 2), (.map 3)] 101)), (1, (.grow (st.repos.map Ba) 41 4)), (2, (.grow ((Ax st r i).map Bc) 106 13)), (3, (.mm (A9 (Ax st r i)) (some ((nth r.pkgs i).name)) 3 1)), (4, (.row [(.str r.name), (.int .i64 r.prio), (.bool r.inst), (Ac 12 As r.pkgs)] 41)), (6, (.row [(.int .i64 ((((Ax st r i).map Bc).length : Int)))] 3)), (7, (.grow ((A9 (Ax st r i)) ((nth r.pkgs i).name)) 3 1))], 8⟩ ?_ (fun m1_4 => ?_)
         ·refine Cz (fuel := 1) 19 [] (hold (p := ((((A9 (Ax st r i)) ((nth r.pkgs i).name)).length + 1) * 8 ≤ 140737488355328)) (by omega)) ?_
          refine Az [0, 3, 9, 69, 70, 71, 78, 80, 94] ?_
          exact Be m1_2
         refine Ci false 3 (lsD 21 [0, 1, 2, 3, 4, 5, 6, 7, 8, 9, 10, 11, 12, 13, 14, 15, 16, 17]) ⟨[(0, (.ptr 0 0)), (3, (.ptr 4 0)), (9, (.fp (As (nth r.pkgs i)))), (69, (Ac 12 As r.pkgs)), (70, (.int .i64 ((r.pkgs.length : Int)))), (71, (.int .i64 ((i : Int)))), (78, (.map 3)), (80, (.str ((nth r.pkgs i).name))), (87, (.own 6)), (92, (.int .i64 ((((Ax st r i).map Bc).length : Int))))], [(0, (.row [(.int .i64 st.kind), (.own 1), (.own 2), (.map 3)] 101)), (1, (.grow (st.repos.map Ba) 41 4)), (2, (.grow ((Ax st r i).map Bc) 106 13)), (3, (.mm (A9 (Ax st r i)) (some ((nth r.pkgs i).name)) 3 1)), (4, (.row [(.str r.name), (.int .i64 r.prio), (.bool r.inst), (Ac 12 As r.pkgs)] 41)), (6, (.grow ((A9 (Ax st r i)) ((nth r.pkgs i).name)) 3 1))], 7⟩ ?_ (fun m1_5 => ?_)
         ·refine Cz (fuel := 2) 18 [] A0 ?_
          refine Az [0, 3, 9, 69, 70, 71, 78, 80, 87, 93] ?_
          exact Be m1_3
         refine Ci true 3 (lsD 21 [0, 1, 2, 3, 4, 5, 6, 7, 8, 9, 10, 11, 13, 14, 15, 16, 17, 18]) ⟨[(0, (.ptr 0 0)), (3, (.ptr 4 0)), (9, (.fp (As (nth r.pkgs i)))), (69, (Ac 12 As r.pkgs)), (70, (.int .i64 ((r.pkgs.length : Int)))), (71, (.int .i64 ((i : Int)))), (78, (.map 3)), (80, (.str ((nth r.pkgs i).name))), (84, (.map 3)), (86, (.str ((nth r.pkgs i).name))), (93, (.sl 6 0 1 1 false))], [(0, (.row [(.int .i64 st.kind), (.own 1), (.own 2), (.map 3)] 101)), (1, (.grow (st.repos.map Ba) 41 4)), (2, (.grow ((Ax st r i).map Bc) 106 13)), (3, (.mm (A9 (Ax st r i)) none 3 1)), (4, (.row [(.str r.name), (.int .i64 r.prio), (.bool r.inst), (Ac 12 As r.pkgs)] 41)), (6, (.row [(.int .i64 ((((Ax st r i).map Bc).length : Int)))] 3))], 7⟩ ?_ (fun m1_6 => ?_)
         ·refine Fx (fuel := 2) 12 (by kernel_rfl) ?_
          refine Db (fuel := 2) 12 rfl ?_
          refine E1 (b := 3) (s := (nth r.pkgs i).name) (y := ⟨[(0, (.ptr 0 0)), (3, (.ptr 4 0)), (9, (.fp (As (nth r.pkgs i)))), (69, (Ac 12 As r.pkgs)), (70, (.int .i64 ((r.pkgs.length : Int)))), (71, (.int .i64 ((i : Int)))), (78, (.map 3)), (80, (.str ((nth r.pkgs i).name))), (84, (.map 3)), (86, (.str ((nth r.pkgs i).name))), (93, (.sl 6 0 1 1 false)), (87, (.own 7))], [(0, (.row [(.int .i64 st.kind), (.own 1), (.own 2), (.map 3)] 101)), (1, (.grow (st.repos.map Ba) 41 4)), (2, (.grow ((Ax st r i).map Bc) 106 13)), (3, (.mm (A9 (Ax st r i)) (some ((nth r.pkgs i).name)) 3 1)), (4, (.row [(.str r.name), (.int .i64 r.prio), (.bool r.inst), (Ac 12 As r.pkgs)] 41)), (6, (.row [(.int .i64 ((((Ax st r i).map Bc).length : Int)))] 3)), (7, (.grow ((A9 (Ax st r i)) ((nth r.pkgs i).name)) 3 1))], 8⟩) (by kernel_rfl) (by kernel_rfl) (by kernel_rfl) Tryz.underlying99 Tryz.underlying9 (fun _ => by kernel_rfl) (by kernel_rfl) ?_
          refine Bx ⟨rfl, ?_⟩
          refine Az [0, 3, 9, 69, 70, 71, 78, 80, 87, 93] ?_
          exact Be m1_4
         refine Ci false 4 (lsD 21 [0, 1, 2, 3, 4, 5, 6, 7, 8, 9, 10, 11, 12, 13, 14, 15, 16]) ⟨[(0, (.ptr 0 0)), (3, (.ptr 4 0)), (9, (.fp (As (nth r.pkgs i)))), (69, (Ac 12 As r.pkgs)), (70, (.int .i64 ((r.pkgs.length : Int)))), (71, (.int .i64 ((i : Int)))), (78, (.map 3)), (80, (.str ((nth r.pkgs i).name))), (87, (.own 6)), (91, (.own 2))], [(0, (.row [(.int .i64 st.kind), (.own 1), (.own 2), (.map 3)] 101)), (1, (.grow (st.repos.map Ba) 41 4)), (2, (.grow ((Ax st r i).map Bc) 106 13)), (3, (.mm (A9 (Ax st r i)) (some ((nth r.pkgs i).name)) 3 1)), (4, (.row [(.str r.name), (.int .i64 r.prio), (.bool r.inst), (Ac 12 As r.pkgs)] 41)), (6, (.grow ((A9 (Ax st r i)) ((nth r.pkgs i).name)) 3 1))], 7⟩ ?_ (fun m1_7 => ?_)
         ·refine Cz (fuel := 3) 17 [] A0 ?_
          refine Az [0, 3, 9, 69, 70, 71, 78, 80, 87, 92] ?_
          exact Be m1_5
         refine Ci true 4 (lsD 21 [0, 1, 2, 3, 4, 5, 6, 7, 8, 9, 10, 11, 13, 14, 15, 16, 17]) ⟨[(0, (.ptr 0 0)), (3, (.ptr 4 0)), (9, (.fp (As (nth r.pkgs i)))), (69, (Ac 12 As r.pkgs)), (70, (.int .i64 ((r.pkgs.length : Int)))), (71, (.int .i64 ((i : Int)))), (78, (.map 3)), (80, (.str ((nth r.pkgs i).name))), (84, (.map 3)), (86, (.str ((nth r.pkgs i).name))), (92, (.int .i64 ((((Ax st r i).map Bc).length : Int))))], [(0, (.row [(.int .i64 st.kind), (.own 1), (.own 2), (.map 3)] 101)), (1, (.grow (st.repos.map Ba) 41 4)), (2, (.grow ((Ax st r i).map Bc) 106 13)), (3, (.mm (A9 (Ax st r i)) none 3 1)), (4, (.row [(.str r.name), (.int .i64 r.prio), (.bool r.inst), (Ac 12 As r.pkgs)] 41))], 6⟩ ?_ (fun m1_8 => ?_)
         ·refine Ck 12 18 (by kernel_rfl) ?_ ?_
          ·refine Db (fuel := 3) 12 rfl ?_
           refine E1 (b := 3) (s := (nth r.pkgs i).name) (y := ⟨[(0, (.ptr 0 0)), (3, (.ptr 4 0)), (9, (.fp (As (nth r.pkgs i)))), (69, (Ac 12 As r.pkgs)), (70, (.int .i64 ((r.pkgs.length : Int)))), (71, (.int .i64 ((i : Int)))), (78, (.map 3)), (80, (.str ((nth r.pkgs i).name))), (84, (.map 3)), (86, (.str ((nth r.pkgs i).name))), (92, (.int .i64 ((((Ax st r i).map Bc).length : Int)))), (87, (.own 6))], [(0, (.row [(.int .i64 st.kind), (.own 1), (.own 2), (.map 3)] 101)), (1, (.grow (st.repos.map Ba) 41 4)), (2, (.grow ((Ax st r i).map Bc) 106 13)), (3, (.mm (A9 (Ax st r i)) (some ((nth r.pkgs i).name)) 3 1)), (4, (.row [(.str r.name), (.int .i64 r.prio), (.bool r.inst), (Ac 12 As r.pkgs)] 41)), (6, (.grow ((A9 (Ax st r i)) ((nth r.pkgs i).name)) 3 1))], 7⟩) (by kernel_rfl) (by kernel_rfl) (by kernel_rfl) Tryz.underlying99 Tryz.underlying9 (fun _ => by kernel_rfl) (by kernel_rfl) ?_
           refine Bx ⟨rfl, ?_⟩
           refine Az [0, 3, 9, 69, 70, 71, 78, 80, 87, 92] ?_
           exact Be m1_5
          ·refine Bb (fuel := 3) 18 [] A0 ?_
           refine Az [0, 3, 9, 69, 70, 71, 78, 80, 84, 86, 93] ?_
           exact Be m1_6
         refine Ci true 4 (lsD 21 [0, 1, 2, 3, 4, 5, 6, 7, 8, 10, 11, 13, 14, 15, 16, 17, 18]) ⟨[(0, (.ptr 0 0)), (3, (.ptr 4 0)), (9, (.fp (As (nth r.pkgs i)))), (69, (Ac 12 As r.pkgs)), (70, (.int .i64 ((r.pkgs.length : Int)))), (71, (.int .i64 ((i : Int)))), (78, (.map 3)), (80, (.str ((nth r.pkgs i).name))), (83, (.ptr 0 3)), (86, (.str ((nth r.pkgs i).name))), (93, (.sl 6 0 1 1 false))], [(0, (.row [(.int .i64 st.kind), (.own 1), (.own 2), (.map 3)] 101)), (1, (.grow (st.repos.map Ba) 41 4)), (2, (.grow ((Ax st r i).map Bc) 106 13)), (3, (.mm (A9 (Ax st r i)) none 3 1)), (4, (.row [(.str r.name), (.int .i64 r.prio), (.bool r.inst), (Ac 12 As r.pkgs)] 41)), (6, (.row [(.int .i64 ((((Ax st r i).map Bc).length : Int)))] 3))], 7⟩ ?_ (fun m1_9 => ?_)
         ·refine Cz (fuel := 3) 9 [] A0 ?_
          refine Az [0, 3, 9, 69, 70, 71, 78, 80, 84, 86, 93] ?_
          exact Be m1_6
         refine Ci false 4 (lsD 21 [0, 1, 2, 4, 5, 6, 7, 8, 9, 10, 11, 12, 13, 14, 15, 16, 17]) ⟨[(0, (.ptr 0 0)), (3, (.ptr 4 0)), (9, (.fp (As (nth r.pkgs i)))), (69, (Ac 12 As r.pkgs)), (70, (.int .i64 ((r.pkgs.length : Int)))), (71, (.int .i64 ((i : Int)))), (77, (.ptr 0 3)), (80, (.str ((nth r.pkgs i).name))), (87, (.own 6)), (92, (.int .i64 ((((Ax st r i).map Bc).length : Int))))], [(0, (.row [(.int .i64 st.kind), (.own 1), (.own 2), (.map 3)] 101)), (1, (.grow (st.repos.map Ba) 41 4)), (2, (.grow ((Ax st r i).map Bc) 106 13)), (3, (.mm (A9 (Ax st r i)) (some ((nth r.pkgs i).name)) 3 1)), (4, (.row [(.str r.name), (.int .i64 r.prio), (.bool r.inst), (Ac 12 As r.pkgs)] 41)), (6, (.grow ((A9 (Ax st r i)) ((nth r.pkgs i).name)) 3 1))], 7⟩ ?_ (fun m1_10 => ?_)
         ·refine Ck 3 18 (by kernel_rfl) ?_ ?_
          ·refine Bb (fuel := 3) 3 [] A0 ?_
           refine Az [0, 3, 9, 69, 70, 71, 78, 80, 87, 92] ?_
           exact Be m1_5
          ·refine Bb (fuel := 3) 18 [] A0 ?_
           refine Az [0, 3, 9, 69, 70, 71, 77, 80, 87, 93] ?_
           refine Ck 3 19 (by kernel_rfl) ?_ ?_
           ·refine Bb (fuel := 2) 3 [] A0 ?_
            refine Az [0, 3, 9, 69, 70, 71, 78, 80, 87, 93] ?_
            exact Be m1_3
           ·refine Bb (fuel := 2) 19 [] (hold (p := ((((A9 (Ax st r i)) ((nth r.pkgs i).name)).length + 1) * 8 ≤ 140737488355328)) (by omega)) ?_
            refine Az [0, 3, 9, 69, 70, 71, 77, 80, 94] ?_
            refine Cz (fuel := 1) 3 [] A0 ?_
            refine Az [0, 3, 9, 69, 70, 71, 78, 80, 94] ?_
            exact Be m1_1
         refine Ci true 4 (lsD 21 [0, 1, 2, 4, 5, 6, 7, 8, 9, 10, 11, 13, 14, 15, 16, 17, 18]) ⟨[(0, (.ptr 0 0)), (3, (.ptr 4 0)), (9, (.fp (As (nth r.pkgs i)))), (69, (Ac 12 As r.pkgs)), (70, (.int .i64 ((r.pkgs.length : Int)))), (71, (.int .i64 ((i : Int)))), (77, (.ptr 0 3)), (80, (.str ((nth r.pkgs i).name))), (84, (.map 3)), (86, (.str ((nth r.pkgs i).name))), (93, (.sl 6 0 1 1 false))], [(0, (.row [(.int .i64 st.kind), (.own 1), (.own 2), (.map 3)] 101)), (1, (.grow (st.repos.map Ba) 41 4)), (2, (.grow ((Ax st r i).map Bc) 106 13)), (3, (.mm (A9 (Ax st r i)) none 3 1)), (4, (.row [(.str r.name), (.int .i64 r.prio), (.bool r.inst), (Ac 12 As r.pkgs)] 41)), (6, (.row [(.int .i64 ((((Ax st r i).map Bc).length : Int)))] 3))], 7⟩ ?_ (fun m1_11 => ?_)
         ·refine Ck 3 12 (by kernel_rfl) ?_ ?_
          ·refine Bb (fuel := 3) 3 [] A0 ?_
           refine Az [0, 3, 9, 69, 70, 71, 78, 80, 84, 86, 93] ?_
           exact Be m1_6
          ·refine Db (fuel := 3) 12 rfl ?_
           refine E1 (b := 3) (s := (nth r.pkgs i).name) (y := ⟨[(0, (.ptr 0 0)), (3, (.ptr 4 0)), (9, (.fp (As (nth r.pkgs i)))), (69, (Ac 12 As r.pkgs)), (70, (.int .i64 ((r.pkgs.length : Int)))), (71, (.int .i64 ((i : Int)))), (77, (.ptr 0 3)), (80, (.str ((nth r.pkgs i).name))), (84, (.map 3)), (86, (.str ((nth r.pkgs i).name))), (93, (.sl 6 0 1 1 false)), (87, (.own 7))], [(0, (.row [(.int .i64 st.kind), (.own 1), (.own 2), (.map 3)] 101)), (1, (.grow (st.repos.map Ba) 41 4)), (2, (.grow ((Ax st r i).map Bc) 106 13)), (3, (.mm (A9 (Ax st r i)) (some ((nth r.pkgs i).name)) 3 1)), (4, (.row [(.str r.name), (.int .i64 r.prio), (.bool r.inst), (Ac 12 As r.pkgs)] 41)), (6, (.row [(.int .i64 ((((Ax st r i).map Bc).length : Int)))] 3)), (7, (.grow ((A9 (Ax st r i)) ((nth r.pkgs i).name)) 3 1))], 8⟩) (by kernel_rfl) (by kernel_rfl) (by kernel_rfl) Tryz.underlying99 Tryz.underlying9 (fun _ => by kernel_rfl) (by kernel_rfl) ?_
           refine Bx ⟨rfl, ?_⟩
           refine Az [0, 3, 9, 69, 70, 71, 77, 80, 87, 93] ?_
           refine Ck 3 19 (by kernel_rfl) ?_ ?_
           ·refine Bb (fuel := 2) 3 [] A0 ?_
            refine Az [0, 3, 9, 69, 70, 71, 78, 80, 87, 93] ?_
            exact Be m1_4
           ·refine Bb (fuel := 2) 19 [] (hold (p := ((((A9 (Ax st r i)) ((nth r.pkgs i).name)).length + 1) * 8 ≤ 140737488355328)) (by omega)) ?_
            refine Az [0, 3, 9, 69, 70, 71, 77, 80, 94] ?_
            refine Cz (fuel := 1) 3 [] A0 ?_
            refine Az [0, 3, 9, 69, 70, 71, 78, 80, 94] ?_
            exact Be m1_2
         refine Ci false 5 (lsD 21 [0, 1, 2, 3, 4, 5, 6, 7, 8, 9, 10, 11, 12, 13, 14, 15]) ⟨[(0, (.ptr 0 0)), (3, (.ptr 4 0)), (9, (.fp (As (nth r.pkgs i)))), (69, (Ac 12 As r.pkgs)), (70, (.int .i64 ((r.pkgs.length : Int)))), (71, (.int .i64 ((i : Int)))), (78, (.map 3)), (80, (.str ((nth r.pkgs i).name))), (87, (.own 6)), (90, (.ptr 0 2))], [(0, (.row [(.int .i64 st.kind), (.own 1), (.own 2), (.map 3)] 101)), (1, (.grow (st.repos.map Ba) 41 4)), (2, (.grow ((Ax st r i).map Bc) 106 13)), (3, (.mm (A9 (Ax st r i)) (some ((nth r.pkgs i).name)) 3 1)), (4, (.row [(.str r.name), (.int .i64 r.prio), (.bool r.inst), (Ac 12 As r.pkgs)] 41)), (6, (.grow ((A9 (Ax st r i)) ((nth r.pkgs i).name)) 3 1))], 7⟩ ?_ (fun m1_12 => ?_)
         ·refine Cz (fuel := 4) 16 [] A0 ?_
          refine Az [0, 3, 9, 69, 70, 71, 78, 80, 87, 91] ?_
          exact Be m1_7
         refine Ci true 5 (lsD 21 [0, 1, 2, 3, 4, 5, 6, 7, 8, 9, 10, 11, 13, 14, 15, 16]) ⟨[(0, (.ptr 0 0)), (3, (.ptr 4 0)), (9, (.fp (As (nth r.pkgs i)))), (69, (Ac 12 As r.pkgs)), (70, (.int .i64 ((r.pkgs.length : Int)))), (71, (.int .i64 ((i : Int)))), (78, (.map 3)), (80, (.str ((nth r.pkgs i).name))), (84, (.map 3)), (86, (.str ((nth r.pkgs i).name))), (91, (.own 2))], [(0, (.row [(.int .i64 st.kind), (.own 1), (.own 2), (.map 3)] 101)), (1, (.grow (st.repos.map Ba) 41 4)), (2, (.grow ((Ax st r i).map Bc) 106 13)), (3, (.mm (A9 (Ax st r i)) none 3 1)), (4, (.row [(.str r.name), (.int .i64 r.prio), (.bool r.inst), (Ac 12 As r.pkgs)] 41))], 6⟩ ?_ (fun m1_13 => ?_)
         ·refine Ck 12 17 (by kernel_rfl) ?_ ?_
          ·refine Db (fuel := 4) 12 rfl ?_
           refine E1 (b := 3) (s := (nth r.pkgs i).name) (y := ⟨[(0, (.ptr 0 0)), (3, (.ptr 4 0)), (9, (.fp (As (nth r.pkgs i)))), (69, (Ac 12 As r.pkgs)), (70, (.int .i64 ((r.pkgs.length : Int)))), (71, (.int .i64 ((i : Int)))), (78, (.map 3)), (80, (.str ((nth r.pkgs i).name))), (84, (.map 3)), (86, (.str ((nth r.pkgs i).name))), (91, (.own 2)), (87, (.own 6))], [(0, (.row [(.int .i64 st.kind), (.own 1), (.own 2), (.map 3)] 101)), (1, (.grow (st.repos.map Ba) 41 4)), (2, (.grow ((Ax st r i).map Bc) 106 13)), (3, (.mm (A9 (Ax st r i)) (some ((nth r.pkgs i).name)) 3 1)), (4, (.row [(.str r.name), (.int .i64 r.prio), (.bool r.inst), (Ac 12 As r.pkgs)] 41)), (6, (.grow ((A9 (Ax st r i)) ((nth r.pkgs i).name)) 3 1))], 7⟩) (by kernel_rfl) (by kernel_rfl) (by kernel_rfl) Tryz.underlying99 Tryz.underlying9 (fun _ => by kernel_rfl) (by kernel_rfl) ?_
           refine Bx ⟨rfl, ?_⟩
           refine Az [0, 3, 9, 69, 70, 71, 78, 80, 87, 91] ?_
           exact Be m1_7
          ·refine Bb (fuel := 4) 17 [] A0 ?_
           refine Az [0, 3, 9, 69, 70, 71, 78, 80, 84, 86, 92] ?_
           exact Be m1_8
         refine Ci true 5 (lsD 21 [0, 1, 2, 3, 4, 5, 6, 7, 8, 10, 11, 13, 14, 15, 16, 17]) ⟨[(0, (.ptr 0 0)), (3, (.ptr 4 0)), (9, (.fp (As (nth r.pkgs i)))), (69, (Ac 12 As r.pkgs)), (70, (.int .i64 ((r.pkgs.length : Int)))), (71, (.int .i64 ((i : Int)))), (78, (.map 3)), (80, (.str ((nth r.pkgs i).name))), (83, (.ptr 0 3)), (86, (.str ((nth r.pkgs i).name))), (92, (.int .i64 ((((Ax st r i).map Bc).length : Int))))], [(0, (.row [(.int .i64 st.kind), (.own 1), (.own 2), (.map 3)] 101)), (1, (.grow (st.repos.map Ba) 41 4)), (2, (.grow ((Ax st r i).map Bc) 106 13)), (3, (.mm (A9 (Ax st r i)) none 3 1)), (4, (.row [(.str r.name), (.int .i64 r.prio), (.bool r.inst), (Ac 12 As r.pkgs)] 41))], 6⟩ ?_ (fun m1_14 => ?_)
         ·refine Ck 9 18 (by kernel_rfl) ?_ ?_
          ·refine Bb (fuel := 4) 9 [] A0 ?_
           refine Az [0, 3, 9, 69, 70, 71, 78, 80, 84, 86, 92] ?_
           exact Be m1_8
          ·refine Bb (fuel := 4) 18 [] A0 ?_
           refine Az [0, 3, 9, 69, 70, 71, 78, 80, 83, 86, 93] ?_
           exact Be m1_9
         refine Ci false 5 (lsD 21 [0, 1, 2, 4, 5, 6, 7, 8, 9, 10, 11, 12, 13, 14, 15, 16]) ⟨[(0, (.ptr 0 0)), (3, (.ptr 4 0)), (9, (.fp (As (nth r.pkgs i)))), (69, (Ac 12 As r.pkgs)), (70, (.int .i64 ((r.pkgs.length : Int)))), (71, (.int .i64 ((i : Int)))), (77, (.ptr 0 3)), (80, (.str ((nth r.pkgs i).name))), (87, (.own 6)), (91, (.own 2))], [(0, (.row [(.int .i64 st.kind), (.own 1), (.own 2), (.map 3)] 101)), (1, (.grow (st.repos.map Ba) 41 4)), (2, (.grow ((Ax st r i).map Bc) 106 13)), (3, (.mm (A9 (Ax st r i)) (some ((nth r.pkgs i).name)) 3 1)), (4, (.row [(.str r.name), (.int .i64 r.prio), (.bool r.inst), (Ac 12 As r.pkgs)] 41)), (6, (.grow ((A9 (Ax st r i)) ((nth r.pkgs i).name)) 3 1))], 7⟩ ?_ (fun m1_15 => ?_)
         ·refine Ck 3 17 (by kernel_rfl) ?_ ?_
          ·refine Bb (fuel := 4) 3 [] A0 ?_
           refine Az [0, 3, 9, 69, 70, 71, 78, 80, 87, 91] ?_
           exact Be m1_7
          ·refine Bb (fuel := 4) 17 [] A0 ?_
           refine Az [0, 3, 9, 69, 70, 71, 77, 80, 87, 92] ?_
           exact Be m1_10
         refine Ci true 5 (lsD 21 [0, 1, 2, 4, 5, 6, 7, 8, 9, 10, 11, 13, 14, 15, 16, 17]) ⟨[(0, (.ptr 0 0)), (3, (.ptr 4 0)), (9, (.fp (As (nth r.pkgs i)))), (69, (Ac 12 As r.pkgs)), (70, (.int .i64 ((r.pkgs.length : Int)))), (71, (.int .i64 ((i : Int)))), (77, (.ptr 0 3)), (80, (.str ((nth r.pkgs i).name))), (84, (.map 3)), (86, (.str ((nth r.pkgs i).name))), (92, (.int .i64 ((((Ax st r i).map Bc).length : Int))))], [(0, (.row [(.int .i64 st.kind), (.own 1), (.own 2), (.map 3)] 101)), (1, (.grow (st.repos.map Ba) 41 4)), (2, (.grow ((Ax st r i).map Bc) 106 13)), (3, (.mm (A9 (Ax st r i)) none 3 1)), (4, (.row [(.str r.name), (.int .i64 r.prio), (.bool r.inst), (Ac 12 As r.pkgs)] 41))], 6⟩ ?_ (fun m1_16 => ?_)
         ·refine Fw 3 12 18 (by kernel_rfl) ?_ ?_ ?_
          ·refine Bb (fuel := 4) 3 [] A0 ?_
           refine Az [0, 3, 9, 69, 70, 71, 78, 80, 84, 86, 92] ?_
           exact Be m1_8
          ·refine Db (fuel := 4) 12 rfl ?_
           refine E1 (b := 3) (s := (nth r.pkgs i).name) (y := ⟨[(0, (.ptr 0 0)), (3, (.ptr 4 0)), (9, (.fp (As (nth r.pkgs i)))), (69, (Ac 12 As r.pkgs)), (70, (.int .i64 ((r.pkgs.length : Int)))), (71, (.int .i64 ((i : Int)))), (77, (.ptr 0 3)), (80, (.str ((nth r.pkgs i).name))), (84, (.map 3)), (86, (.str ((nth r.pkgs i).name))), (92, (.int .i64 ((((Ax st r i).map Bc).length : Int)))), (87, (.own 6))], [(0, (.row [(.int .i64 st.kind), (.own 1), (.own 2), (.map 3)] 101)), (1, (.grow (st.repos.map Ba) 41 4)), (2, (.grow ((Ax st r i).map Bc) 106 13)), (3, (.mm (A9 (Ax st r i)) (some ((nth r.pkgs i).name)) 3 1)), (4, (.row [(.str r.name), (.int .i64 r.prio), (.bool r.inst), (Ac 12 As r.pkgs)] 41)), (6, (.grow ((A9 (Ax st r i)) ((nth r.pkgs i).name)) 3 1))], 7⟩) (by kernel_rfl) (by kernel_rfl) (by kernel_rfl) Tryz.underlying99 Tryz.underlying9 (fun _ => by kernel_rfl) (by kernel_rfl) ?_
           refine Bx ⟨rfl, ?_⟩
           refine Az [0, 3, 9, 69, 70, 71, 77, 80, 87, 92] ?_
           exact Be m1_10
          ·refine Bb (fuel := 4) 18 [] A0 ?_
           refine Az [0, 3, 9, 69, 70, 71, 77, 80, 84, 86, 93] ?_
           exact Be m1_11
         refine Ci true 6 (lsD 21 [0, 1, 2, 3, 4, 5, 6, 7, 8, 9, 10, 11, 13, 14, 15]) ⟨[(0, (.ptr 0 0)), (3, (.ptr 4 0)), (9, (.fp (As (nth r.pkgs i)))), (69, (Ac 12 As r.pkgs)), (70, (.int .i64 ((r.pkgs.length : Int)))), (71, (.int .i64 ((i : Int)))), (78, (.map 3)), (80, (.str ((nth r.pkgs i).name))), (84, (.map 3)), (86, (.str ((nth r.pkgs i).name))), (90, (.ptr 0 2))], [(0, (.row [(.int .i64 st.kind), (.own 1), (.own 2), (.map 3)] 101)), (1, (.grow (st.repos.map Ba) 41 4)), (2, (.grow ((Ax st r i).map Bc) 106 13)), (3, (.mm (A9 (Ax st r i)) none 3 1)), (4, (.row [(.str r.name), (.int .i64 r.prio), (.bool r.inst), (Ac 12 As r.pkgs)] 41))], 6⟩ ?_ (fun m1_17 => ?_)
         ·refine Ck 12 16 (by kernel_rfl) ?_ ?_
          ·refine Db (fuel := 5) 12 rfl ?_
           refine E1 (b := 3) (s := (nth r.pkgs i).name) (y := ⟨[(0, (.ptr 0 0)), (3, (.ptr 4 0)), (9, (.fp (As (nth r.pkgs i)))), (69, (Ac 12 As r.pkgs)), (70, (.int .i64 ((r.pkgs.length : Int)))), (71, (.int .i64 ((i : Int)))), (78, (.map 3)), (80, (.str ((nth r.pkgs i).name))), (84, (.map 3)), (86, (.str ((nth r.pkgs i).name))), (90, (.ptr 0 2)), (87, (.own 6))], [(0, (.row [(.int .i64 st.kind), (.own 1), (.own 2), (.map 3)] 101)), (1, (.grow (st.repos.map Ba) 41 4)), (2, (.grow ((Ax st r i).map Bc) 106 13)), (3, (.mm (A9 (Ax st r i)) (some ((nth r.pkgs i).name)) 3 1)), (4, (.row [(.str r.name), (.int .i64 r.prio), (.bool r.inst), (Ac 12 As r.pkgs)] 41)), (6, (.grow ((A9 (Ax st r i)) ((nth r.pkgs i).name)) 3 1))], 7⟩) (by kernel_rfl) (by kernel_rfl) (by kernel_rfl) Tryz.underlying99 Tryz.underlying9 (fun _ => by kernel_rfl) (by kernel_rfl) ?_
           refine Bx ⟨rfl, ?_⟩
           refine Az [0, 3, 9, 69, 70, 71, 78, 80, 87, 90] ?_
           exact Be m1_12
          ·refine Bb (fuel := 5) 16 [] A0 ?_
           refine Az [0, 3, 9, 69, 70, 71, 78, 80, 84, 86, 91] ?_
           exact Be m1_13
         refine Ci true 6 (lsD 21 [0, 1, 2, 3, 4, 5, 6, 7, 8, 10, 11, 13, 14, 15, 16]) ⟨[(0, (.ptr 0 0)), (3, (.ptr 4 0)), (9, (.fp (As (nth r.pkgs i)))), (69, (Ac 12 As r.pkgs)), (70, (.int .i64 ((r.pkgs.length : Int)))), (71, (.int .i64 ((i : Int)))), (78, (.map 3)), (80, (.str ((nth r.pkgs i).name))), (83, (.ptr 0 3)), (86, (.str ((nth r.pkgs i).name))), (91, (.own 2))], [(0, (.row [(.int .i64 st.kind), (.own 1), (.own 2), (.map 3)] 101)), (1, (.grow (st.repos.map Ba) 41 4)), (2, (.grow ((Ax st r i).map Bc) 106 13)), (3, (.mm (A9 (Ax st r i)) none 3 1)), (4, (.row [(.str r.name), (.int .i64 r.prio), (.bool r.inst), (Ac 12 As r.pkgs)] 41))], 6⟩ ?_ (fun m1_18 => ?_)
         ·refine Ck 9 17 (by kernel_rfl) ?_ ?_
          ·refine Bb (fuel := 5) 9 [] A0 ?_
           refine Az [0, 3, 9, 69, 70, 71, 78, 80, 84, 86, 91] ?_
           exact Be m1_13
          ·refine Bb (fuel := 5) 17 [] A0 ?_
           refine Az [0, 3, 9, 69, 70, 71, 78, 80, 83, 86, 92] ?_
           exact Be m1_14
         refine Ci true 6 (lsD 21 [0, 1, 2, 4, 5, 6, 7, 8, 9, 10, 11, 13, 14, 15, 16]) ⟨[(0, (.ptr 0 0)), (3, (.ptr 4 0)), (9, (.fp (As (nth r.pkgs i)))), (69, (Ac 12 As r.pkgs)), (70, (.int .i64 ((r.pkgs.length : Int)))), (71, (.int .i64 ((i : Int)))), (77, (.ptr 0 3)), (80, (.str ((nth r.pkgs i).name))), (84, (.map 3)), (86, (.str ((nth r.pkgs i).name))), (91, (.own 2))], [(0, (.row [(.int .i64 st.kind), (.own 1), (.own 2), (.map 3)] 101)), (1, (.grow (st.repos.map Ba) 41 4)), (2, (.grow ((Ax st r i).map Bc) 106 13)), (3, (.mm (A9 (Ax st r i)) none 3 1)), (4, (.row [(.str r.name), (.int .i64 r.prio), (.bool r.inst), (Ac 12 As r.pkgs)] 41))], 6⟩ ?_ (fun m1_19 => ?_)
         ·refine Fw 3 12 17 (by kernel_rfl) ?_ ?_ ?_
          ·refine Bb (fuel := 5) 3 [] A0 ?_
           refine Az [0, 3, 9, 69, 70, 71, 78, 80, 84, 86, 91] ?_
           exact Be m1_13
          ·refine Db (fuel := 5) 12 rfl ?_
           refine E1 (b := 3) (s := (nth r.pkgs i).name) (y := ⟨[(0, (.ptr 0 0)), (3, (.ptr 4 0)), (9, (.fp (As (nth r.pkgs i)))), (69, (Ac 12 As r.pkgs)), (70, (.int .i64 ((r.pkgs.length : Int)))), (71, (.int .i64 ((i : Int)))), (77, (.ptr 0 3)), (80, (.str ((nth r.pkgs i).name))), (84, (.map 3)), (86, (.str ((nth r.pkgs i).name))), (91, (.own 2)), (87, (.own 6))], [(0, (.row [(.int .i64 st.kind), (.own 1), (.own 2), (.map 3)] 101)), (1, (.grow (st.repos.map Ba) 41 4)), (2, (.grow ((Ax st r i).map Bc) 106 13)), (3, (.mm (A9 (Ax st r i)) (some ((nth r.pkgs i).name)) 3 1)), (4, (.row [(.str r.name), (.int .i64 r.prio), (.bool r.inst), (Ac 12 As r.pkgs)] 41)), (6, (.grow ((A9 (Ax st r i)) ((nth r.pkgs i).name)) 3 1))], 7⟩) (by kernel_rfl) (by kernel_rfl) (by kernel_rfl) Tryz.underlying99 Tryz.underlying9 (fun _ => by kernel_rfl) (by kernel_rfl) ?_
           refine Bx ⟨rfl, ?_⟩
           refine Az [0, 3, 9, 69, 70, 71, 77, 80, 87, 91] ?_
           exact Be m1_15
          ·refine Bb (fuel := 5) 17 [] A0 ?_
           refine Az [0, 3, 9, 69, 70, 71, 77, 80, 84, 86, 92] ?_
           exact Be m1_16
         refine C0 (fuel := 8) [] [0, 1, 2, 4, 5, 6, 7, 8, 10, 11, 13, 14, 15] [0, 3, 9, 69, 70, 71, 77, 80, 83, 86, 90] A0 ?_
         refine Fw 3 9 16 (by kernel_rfl) ?_ ?_ ?_
         ·refine Bb (fuel := 7) 3 [] A0 ?_
          refine Az [0, 3, 9, 69, 70, 71, 78, 80, 83, 86, 90] ?_
          refine Ck 9 16 (by kernel_rfl) ?_ ?_
          ·refine Bb (fuel := 6) 9 [] A0 ?_
           refine Az [0, 3, 9, 69, 70, 71, 78, 80, 84, 86, 90] ?_
           exact Be m1_17
          ·refine Bb (fuel := 6) 16 [] A0 ?_
           refine Az [0, 3, 9, 69, 70, 71, 78, 80, 83, 86, 91] ?_
           exact Be m1_18
         ·refine Bb (fuel := 7) 9 [] A0 ?_
          refine Az [0, 3, 9, 69, 70, 71, 77, 80, 84, 86, 90] ?_
          refine Fw 3 12 16 (by kernel_rfl) ?_ ?_ ?_
          ·refine Bb (fuel := 6) 3 [] A0 ?_
           refine Az [0, 3, 9, 69, 70, 71, 78, 80, 84, 86, 90] ?_
           exact Be m1_17
          ·refine Db (fuel := 6) 12 rfl ?_
           refine E1 (b := 3) (s := (nth r.pkgs i).name) (y := ⟨[(0, (.ptr 0 0)), (3, (.ptr 4 0)), (9, (.fp (As (nth r.pkgs i)))), (69, (Ac 12 As r.pkgs)), (70, (.int .i64 ((r.pkgs.length : Int)))), (71, (.int .i64 ((i : Int)))), (77, (.ptr 0 3)), (80, (.str ((nth r.pkgs i).name))), (84, (.map 3)), (86, (.str ((nth r.pkgs i).name))), (90, (.ptr 0 2)), (87, (.own 6))], [(0, (.row [(.int .i64 st.kind), (.own 1), (.own 2), (.map 3)] 101)), (1, (.grow (st.repos.map Ba) 41 4)), (2, (.grow ((Ax st r i).map Bc) 106 13)), (3, (.mm (A9 (Ax st r i)) (some ((nth r.pkgs i).name)) 3 1)), (4, (.row [(.str r.name), (.int .i64 r.prio), (.bool r.inst), (Ac 12 As r.pkgs)] 41)), (6, (.grow ((A9 (Ax st r i)) ((nth r.pkgs i).name)) 3 1))], 7⟩) (by kernel_rfl) (by kernel_rfl) (by kernel_rfl) Tryz.underlying99 Tryz.underlying9 (fun _ => by kernel_rfl) (by kernel_rfl) ?_
           refine Bx ⟨rfl, ?_⟩
           refine Az [0, 3, 9, 69, 70, 71, 77, 80, 87, 90] ?_
           refine Ck 3 16 (by kernel_rfl) ?_ ?_
           ·refine Bb (fuel := 5) 3 [] A0 ?_
            refine Az [0, 3, 9, 69, 70, 71, 78, 80, 87, 90] ?_
            exact Be m1_12
           ·refine Bb (fuel := 5) 16 [] A0 ?_
            refine Az [0, 3, 9, 69, 70, 71, 77, 80, 87, 91] ?_
            exact Be m1_15
          ·refine Bb (fuel := 6) 16 [] A0 ?_
           refine Az [0, 3, 9, 69, 70, 71, 77, 80, 84, 86, 91] ?_
           exact Be m1_19
         ·refine Bb (fuel := 7) 16 [] A0 ?_
          refine Az [0, 3, 9, 69, 70, 71, 77, 80, 83, 86, 91] ?_
          refine Fw 3 9 17 (by kernel_rfl) ?_ ?_ ?_
          ·refine Bb (fuel := 6) 3 [] A0 ?_
           refine Az [0, 3, 9, 69, 70, 71, 78, 80, 83, 86, 91] ?_
           exact Be m1_18
          ·refine Bb (fuel := 6) 9 [] A0 ?_
           refine Az [0, 3, 9, 69, 70, 71, 77, 80, 84, 86, 91] ?_
           exact Be m1_19
          ·refine Bb (fuel := 6) 17 [] A0 ?_
           refine Az [0, 3, 9, 69, 70, 71, 77, 80, 83, 86, 92] ?_
           refine Fw 3 9 18 (by kernel_rfl) ?_ ?_ ?_
           ·refine Bb (fuel := 5) 3 [] A0 ?_
            refine Az [0, 3, 9, 69, 70, 71, 78, 80, 83, 86, 92] ?_
            exact Be m1_14
           ·refine Bb (fuel := 5) 9 [] A0 ?_
            refine Az [0, 3, 9, 69, 70, 71, 77, 80, 84, 86, 92] ?_
            exact Be m1_16
           ·refine Bb (fuel := 5) 18 [] A0 ?_
            refine Az [0, 3, 9, 69, 70, 71, 77, 80, 83, 86, 93] ?_
            refine Ck 3 9 (by kernel_rfl) ?_ ?_
            ·refine Bb (fuel := 4) 3 [] A0 ?_
             refine Az [0, 3, 9, 69, 70, 71, 78, 80, 83, 86, 93] ?_
             exact Be m1_9
            ·refine Bb (fuel := 4) 9 [] A0 ?_
             refine Az [0, 3, 9, 69, 70, 71, 77, 80, 84, 86, 93] ?_
             exact Be m1_11
        ·rintro y3 rfl
         refine Gy [] [0, 3, 69, 70, 71] [] (hk 6 Z5 (Q09 (nth r.pkgs i) (by have := (nth r.pkgs i).sizes; have := hp i (by omega); omega) (by have := (nth r.pkgs i).sizes; have := Kb (nth r.pkgs i).files; have := hp i (by omega); omega)) <| hk0) v0 (cc 14 (p := ((((Ax st r i).map Bc).length + 1) * 264 ≤ 140737488355328)) (by omega) <| c0) ?_
         refine ⟨by kernel_rfl, (Eq.trans (b := (⟨[(0, (.ptr 0 0)), (3, (.ptr 4 0)), (69, (Ac 12 As r.pkgs)), (70, (.int .i64 ((r.pkgs.length : Int)))), (71, (.int .i64 ((i : Int))))], [(0, (.row [(.int .i64 st.kind), (.own 1), (.own 2), (.map 3)] 101)), (1, (.grow (st.repos.map Ba) 41 4)), (2, (.grow (((Ax st r i).map Bc) ++ ([(.agg [(.str ((nth r.pkgs i).name)), (.str ((nth r.pkgs i).evr)), (.str ((nth r.pkgs i).arch)), (.str ((nth r.pkgs i).vendor)), (Ac 5 Al ((nth r.pkgs i).provides)), (Ac 5 Al ((nth r.pkgs i).requires)), (Ac 5 Al ((nth r.pkgs i).pre)), (Ac 5 Al ((nth r.pkgs i).conflicts)), (Ac 5 Al ((nth r.pkgs i).obsoletes)), (Ac 5 Al ((nth r.pkgs i).recommends)), (Ac 5 Al ((nth r.pkgs i).supplements)), (C3 ((nth r.pkgs i).files)), (.int .i64 (((st.repos.map Ba).length : Int)))])] : List AV)) 106 13)), (3, (.mm (A9 (Ax st r i ++ [(nth r.pkgs i, (st.repos.length : Int))])) none 3 1)), (4, (.row [(.str r.name), (.int .i64 r.prio), (.bool r.inst), (Ac 12 As r.pkgs)] 41))], 5⟩ : St)) (by kernel_rfl) (by rw [show (((Ax st r i).map Bc) ++ ([(.agg [(.str ((nth r.pkgs i).name)), (.str ((nth r.pkgs i).evr)), (.str ((nth r.pkgs i).arch)), (.str ((nth r.pkgs i).vendor)), (Ac 5 Al ((nth r.pkgs i).provides)), (Ac 5 Al ((nth r.pkgs i).requires)), (Ac 5 Al ((nth r.pkgs i).pre)), (Ac 5 Al ((nth r.pkgs i).conflicts)), (Ac 5 Al ((nth r.pkgs i).obsoletes)), (Ac 5 Al ((nth r.pkgs i).recommends)), (Ac 5 Al ((nth r.pkgs i).supplements)), (C3 ((nth r.pkgs i).files)), (.int .i64 (((st.repos.map Ba).length : Int)))])] : List AV)) = (Ax st r i ++ [(nth r.pkgs i, (st.repos.length : Int))]).map Bc from by rw [List.map_append, List.length_map]; rfl] <;> kernel_rfl))⟩
       ·rintro y2 rfl
        refine Ap ?_
        refine Av 0 [] [0, 3, 69, 70, 71] [] hk0 v0 (cc 0 (p := (-9223372036854775808 ≤ (i : Int) + 1 ∧ (i : Int) + 1 ≤ 9223372036854775807)) (by omega) <| c0) ?_
        refine ⟨by kernel_rfl, _, ?_, i + 1, ?_, (Eq.trans (b := (⟨[(0, (.ptr 0 0)), (3, (.ptr 4 0)), (69, (Ac 12 As r.pkgs)), (70, (.int .i64 ((r.pkgs.length : Int)))), (71, (.int .i64 ((i : Int) + 1)))], [(0, (.row [(.int .i64 st.kind), (.own 1), (.own 2), (.map 3)] 101)), (1, (.grow (st.repos.map Ba) 41 4)), (2, (.grow ((Ax st r i ++ [(nth r.pkgs i, (st.repos.length : Int))]).map Bc) 106 13)), (3, (.mm (A9 (Ax st r i ++ [(nth r.pkgs i, (st.repos.length : Int))])) none 3 1)), (4, (.row [(.str r.name), (.int .i64 r.prio), (.bool r.inst), (Ac 12 As r.pkgs)] 41))], 5⟩ : St)) (by kernel_rfl) (by rw [← Q8e (by omega)] <;> kernel_rfl)), rfl⟩
        ·omega
        ·omega
      ·refine Br ?_
       refine Aa [] [0, 3] ?_
       refine Dt (fun y => y = ⟨[], [(0, (.row [(.int .i64 st.kind), (.own 1), (.own 2), (.map 3)] 101)), (1, (.grow ((st.repos ++ [r]).map Ba) 41 4)), (2, (.grow ((Ax st r i).map Bc) 106 13)), (3, (.mm (A9 (Ax st r i)) none 3 1)), (4, (.row [(.str r.name), (.int .i64 r.prio), (.bool r.inst), .nils] 41))], 5⟩) [] 5 (by omega) ?_ ?_
       ·refine Gy [] [] [] hk0 v0 (cc 7 (p := (((st.repos.map Ba).length + 1) * 56 ≤ 140737488355328)) (by omega) <| c0) ?_
        refine ⟨by kernel_rfl, (Eq.trans (b := (⟨[], [(0, (.row [(.int .i64 st.kind), (.own 1), (.own 2), (.map 3)] 101)), (1, (.grow ((st.repos.map Ba) ++ ([(.agg [(.str r.name), (.int .i64 r.prio), (.bool r.inst), .nils])] : List AV)) 41 4)), (2, (.grow ((Ax st r i).map Bc) 106 13)), (3, (.mm (A9 (Ax st r i)) none 3 1)), (4, (.row [(.str r.name), (.int .i64 r.prio), (.bool r.inst), .nils] 41))], 5⟩ : St)) (by kernel_rfl) (by rw [show ((st.repos.map Ba) ++ ([(.agg [(.str r.name), (.int .i64 r.prio), (.bool r.inst), .nils])] : List AV)) = (st.repos ++ [r]).map Ba from by rw [List.map_append]; rfl] <;> kernel_rfl))⟩
       ·rintro y4 rfl
        refine Aa [] [4] ?_
        refine Ag ?_
        refine D7 (.inl rfl) (al := [(.int .i64 0)]) (by kernel_rfl) ?_ ((by kernel_rfl : Dc 4 _ = some [(0, (.row [(.int .i64 st.kind), (.own 1), (.own 2), (.map 3)] 101)), (1, (.grow ((st.repos ++ [r]).map Ba) 41 4)), (2, (.grow ((Ax st r i).map Bc) 106 13)), (3, (.mm (A9 (Ax st r i)) none 3 1))]).trans ?_)
        all_goals have hE : Ch st r = 0 := by unfold Ch; rw [if_neg (by simp only [not_or]; simp_all), if_neg (by rintro ⟨h1, h2⟩; rw [h1, h2] at c2; simp at c2), if_neg (by omega)]; exact Zn fun j hj => f1_2 j (by omega)
        ·rw [hE]; rfl
        ·unfold Cd; rw [if_pos hE, show i = r.pkgs.length from by omega]
end Sv
end Go.Proofs.YtlmloohlmlahfaaGreatDoor
end
section
namespace Go.Proofs.YtlmloohlmlahfaaGreatDoor
open Go Go.RowKit
namespace Sv
attribute [local irreducible] SW SO Bn
set_option maxHeartbeats 1000000
set_option maxRecDepth 100000
theorem Q93 : Au Tryz.prog 41 := Ay Tryz.func41 (by kernel_rfl) rfl
noncomputable def atX (p : Int × Int) : AV := .agg [.int .i64 p.1, .int .i64 p.2]
def Cu (pl : List (Int × Int)) (st : PoolT) (r : RepoT) (i : Nat) : List (Int × Int) := pl ++ (List.range i).map fun (k : Nat) => ((st.repos.length : Int), (k : Int))
def En (pl : List (Int × Int)) (st : PoolT) (r : RepoT) : List (Int × Int) := if Ch st r = 0 then Cu pl st r r.pkgs.length else pl
theorem Nr {pl : List (Int × Int)} {st : PoolT} {r : RepoT} {e : Int} (h : Ch st r = e) (he : e ≠ 0) : En pl st r = pl := by unfold En; rw [if_neg (by rw [h]; exact he)]
theorem X2y {pl : List (Int × Int)} {st : PoolT} {r : RepoT} {i : Nat} : Cu pl st r (i + 1) = Cu pl st r i ++ [((st.repos.length : Int), (i : Int))] := by
 unfold Cu
 rw [List.range_succ, List.map_append, List.append_assoc]; rfl
theorem X2z {pl : List (Int × Int)} {st : PoolT} {r : RepoT} {i : Nat} : (Cu pl st r i).length = pl.length + i := by unfold Cu; simp
theorem Q2a {α : Type} [Inhabited α] {p : α → Bool} {l : List α} {i : Nat} (hi : i < l.length) (h : p (nth l i) = true) : l.any p = true := by
 rw [List.any_eq_true]
 exact ⟨nth l i, by simp [nth, hi], h⟩
theorem Ki {α : Type} [Inhabited α] {p : α → Bool} {l : List α} (h : ∀ i, i < l.length → p (nth l i) = false) : l.any p = false := by
 rw [List.any_eq_false]
 intro x hx
 obtain ⟨j, hj, rfl⟩ := List.getElem_of_mem hx
 have := h j hj
 simpa [nth, hj] using this
theorem Q5s (st : PoolT) (pl : List (Int × Int)) (r : RepoT) (hr : st.repos.length ≤ 8) (ha : st.all.length ≤ 200) (hpa : pl.length = st.all.length) (hn : r.name.length ≤ 4194304) (hpl : r.pkgs.length ≤ 4194304) (hp : ∀ i, i < r.pkgs.length → (nth r.pkgs i).size ≤ 4194304) :
  Fy Tryz.prog 41 [(.ptr 0 0), (.agg [(.str r.name), (.int .i64 r.prio), (.bool r.inst), (Ac 12 As r.pkgs)])] [(0, (.row [(.int .i64 st.kind), (.own 1), (.own 2)] 116)), (1, (.grow (st.repos.map Bf) 41 4)), (2, (.grow (pl.map atX) 142 2))] 3 (.int .i64 (Ch st r)) [(0, (.row [(.int .i64 ((Cd st r).kind)), (.own 1), (.own 2)] 116)), (1, (.grow ((Cd st r).repos.map Bf) 41 4)), (2, (.grow ((En pl st r).map atX) 142 2))] := by
 have hml : (st.repos.map Bf).length = st.repos.length := List.length_map _
 have hma : (pl.map atX).length = pl.length := List.length_map _
 refine Kp [.tmp 4] Tryz.func41 rfl Tryz.ntmps41 rfl rfl (by kernel_rfl) (by kernel_rfl) (by kernel_rfl) (fun B F hF => ?_)
 refine Ah [] [0, 3] [(1, 3)] hk0 v0 c0 ?_
 refine Ah [] [0, 3, 5] [] (hk 2 Nf (Oh r.name (by omega)) <| hk0) v0 c0 ?_
 refine Ad ?_
 refine Aa [] [0, 3, 15] ?_
 refine Bd (q := !(Bp r.name)) (by kernel_rfl) (fun c1 => ?_) (fun c1 => ?_)
 ·try simp only [Ao] at c1
  refine Aa [] [4] ?_
  refine Ag ?_
  refine D7 (.inl rfl) (al := [(.int .i64 66)]) (by kernel_rfl) ?_ ((by kernel_rfl : Dc 3 _ = some [(0, (.row [(.int .i64 st.kind), (.own 1), (.own 2)] 116)), (1, (.grow (st.repos.map Bf) 41 4)), (2, (.grow (pl.map atX) 142 2))]).trans ?_)
  all_goals have hE : Ch st r = 66 := by unfold Ch; rw [if_pos (.inl c1)]
  ·rw [hE]; rfl
  ·rw [Ip hE (by decide), Nr hE (by decide)]
 ·try simp only [Ao] at c1
  refine Ai ?_
  refine Ad ?_
  refine Aa [] [0, 3, 6] ?_
  refine A1 ?_
  refine Bv (fun g y => ∃ (i : Nat), i ≤ st.repos.length ∧ (∀ j, j < i → ¬ (nth st.repos j).name = r.name) ∧ y = ⟨[(0, (.ptr 0 0)), (3, (.fp (.agg [(.str r.name), (.int .i64 r.prio), (.bool r.inst), (Ac 12 As r.pkgs)]))), (6, (.int .i64 ((i : Int))))], [(0, (.row [(.int .i64 st.kind), (.own 1), (.own 2)] 116)), (1, (.grow (st.repos.map Bf) 41 4)), (2, (.grow (pl.map atX) 142 2))], 4⟩ ∧ g = st.repos.length - i) [0, 3, 6] 4 _ (by omega) ⟨0, (by omega), (by exact fun j hj => by omega), (by kernel_rfl), rfl⟩ ?_
  rintro g1 y1 ⟨i, f1_1, f1_2, rfl, rfl⟩
  refine Ad ?_
  refine Aa [] [0, 3, 6, 22] ?_
  refine A6 (p := (i : Int) < ((st.repos.map Bf).length : Int)) (by kernel_rfl) (fun c2 => ?_) (fun c2 => ?_)
  ·refine Ai ?_
   refine Ad ?_
   refine A1 ?_
   refine Ad ?_
   refine It (by kernel_rfl) (fun F1 hF1 => ?_)
   refine C0 (fuel := 5) [] [0, 1, 2, 4, 8, 9] [0, 3, 6, 27, 29, 34] A0 ?_
   refine Cz (fuel := 4) 3 [] A0 ?_
   refine Fx (fuel := 3) 5 (by kernel_rfl) ?_
   refine Db (fuel := 3) 5 rfl ?_
   refine L5 (b := 1) (i := i) (es := st.repos.map Bf) (e := 41) (sz := 4) (k := .i64) (s' := [(0, (.ptr 0 0)), (3, (.fp (.agg [(.str r.name), (.int .i64 r.prio), (.bool r.inst), (Ac 12 As r.pkgs)]))), (6, (.int .i64 ((i : Int)))), (27, (.ptr 0 1)), (29, (.int .i64 ((i : Int)))), (34, (.str r.name)), (28, (.own 1)), (30, (.op 1 (i * 4)))]) (by kernel_rfl) (by kernel_rfl) (by kernel_rfl) (by kernel_rfl) (by kernel_rfl) (by kernel_rfl) (by (rw [List.length_map]; omega)) (by kernel_rfl) ?_
   refine Bx ⟨rfl, ?_⟩
   refine Fx (fuel := 2) 6 (by kernel_rfl) ?_
   refine Db (fuel := 2) 6 rfl ?_
   refine Ua (b := 1) (o := i * 4) (off := 0) (s' := [(0, (.ptr 0 0)), (3, (.fp (.agg [(.str r.name), (.int .i64 r.prio), (.bool r.inst), (Ac 12 As r.pkgs)]))), (6, (.int .i64 ((i : Int)))), (27, (.ptr 0 1)), (29, (.int .i64 ((i : Int)))), (34, (.str r.name)), (28, (.own 1)), (30, (.op 1 (i * 4))), (31, (.op 1 (i * 4 + 0)))]) (by kernel_rfl) (by kernel_rfl) (by kernel_rfl) (by kernel_rfl) ?_
   refine Bx ⟨rfl, ?_⟩
   refine Fx (fuel := 1) 7 (by kernel_rfl) ?_
   refine Db (fuel := 1) 7 rfl ?_
   refine Qi (b := 1) (e := 41) (sz := 4) (es := st.repos.map Bf) (o := i * 4 + 0) (i := i) (j := 0) (a := (.agg [(.str ((nth st.repos i).name)), (.int .i64 ((nth st.repos i).prio)), (.bool ((nth st.repos i).inst)), (Ac 12 As ((nth st.repos i).pkgs))])) (r := (.str ((nth st.repos i).name))) (s' := [(0, (.ptr 0 0)), (3, (.fp (.agg [(.str r.name), (.int .i64 r.prio), (.bool r.inst), (Ac 12 As r.pkgs)]))), (6, (.int .i64 ((i : Int)))), (27, (.ptr 0 1)), (29, (.int .i64 ((i : Int)))), (34, (.str r.name)), (28, (.own 1)), (30, (.op 1 (i * 4))), (31, (.op 1 (i * 4 + 0))), (32, (.str ((nth st.repos i).name)))]) (by kernel_rfl) (by kernel_rfl) rfl (by kernel_rfl) (Ll (l := st.repos) Bf (by omega)) (by kernel_rfl) (by kernel_rfl) ?_
   refine Bx ⟨rfl, ?_⟩
   refine C0 (fuel := 0) [] [10] [0, 3, 6, 35] A0 ?_
   refine Az [0, 3, 6, 35] ?_
   refine Gi (by kernel_rfl) ?_
   refine A6 (p := (nth st.repos i).name = r.name) (by kernel_rfl) (fun c3 => ?_) (fun c3 => ?_)
   ·refine Aa [] [4] ?_
    refine Ag ?_
    refine D7 (.inl rfl) (al := [(.int .i64 66)]) (by kernel_rfl) ?_ ((by kernel_rfl : Dc 3 _ = some [(0, (.row [(.int .i64 st.kind), (.own 1), (.own 2)] 116)), (1, (.grow (st.repos.map Bf) 41 4)), (2, (.grow (pl.map atX) 142 2))]).trans ?_)
    all_goals have hE : Ch st r = 66 := by unfold Ch; rw [if_pos (.inr (Q2a (i := i) (by omega) (decide_eq_true (by assumption))))]
    ·rw [hE]; rfl
    ·rw [Ip hE (by decide), Nr hE (by decide)]
   ·refine Ai ?_
    refine Ap ?_
    refine Av 0 [] [0, 3, 6] [] hk0 v0 (cc 1 (p := (-9223372036854775808 ≤ (i : Int) + 1 ∧ (i : Int) + 1 ≤ 9223372036854775807)) (by omega) <| c0) ?_
    refine ⟨by kernel_rfl, _, ?_, i + 1, ?_, ?_, (by kernel_rfl), rfl⟩
    ·omega
    ·omega
    ·intro j hj
     by_cases h : j = i
     ·subst h; assumption
     ·exact f1_2 j (by omega)
  ·refine Br ?_
   refine Ad ?_
   refine Aa [] [0, 3, 7] ?_
   refine A1 ?_
   refine Bv (fun g y => ∃ (i : Nat), i ≤ st.repos.length ∧ (∀ j, j < i → (r.inst && (nth st.repos j).inst) = false) ∧ y = ⟨[(0, (.ptr 0 0)), (3, (.fp (.agg [(.str r.name), (.int .i64 r.prio), (.bool r.inst), (Ac 12 As r.pkgs)]))), (7, (.int .i64 ((i : Int))))], [(0, (.row [(.int .i64 st.kind), (.own 1), (.own 2)] 116)), (1, (.grow (st.repos.map Bf) 41 4)), (2, (.grow (pl.map atX) 142 2))], 4⟩ ∧ g = st.repos.length - i) [0, 3, 7] 4 _ (by omega) ⟨0, (by omega), (by exact fun j hj => by omega), (by kernel_rfl), rfl⟩ ?_
   rintro g2 y2 ⟨i, f2_1, f2_2, rfl, rfl⟩
   refine Ad ?_
   refine Aa [] [0, 3, 7, 42] ?_
   refine A6 (p := (i : Int) < ((st.repos.map Bf).length : Int)) (by kernel_rfl) (fun c4 => ?_) (fun c4 => ?_)
   ·refine Ai ?_
    refine Ad ?_
    refine A1 ?_
    refine Ad ?_
    refine Ap ?_
    refine Bq 3 0 [] [0, 3, 7, 47] [] hk0 v0 c0 ?_
    refine P3 r.inst (fun c5 => ?_) (fun c5 => ?_)
    ·refine Fu 47 (a := .bool r.inst) (.bool true) (by kernel_rfl) (Imp.of_eq (by rw [c5])) ?_
     refine Bq 5 3 [] [0, 3, 7, 47, 51, 52] [] hk0 v0 c0 ?_
     refine L5 (b := 1) (i := i) (es := st.repos.map Bf) (e := 41) (sz := 4) (k := .i64) (s' := [(0, (.ptr 0 0)), (3, (.fp (.agg [(.str r.name), (.int .i64 r.prio), (.bool r.inst), (Ac 12 As r.pkgs)]))), (7, (.int .i64 ((i : Int)))), (47, (.bool true)), (51, (.own 1)), (52, (.int .i64 ((i : Int)))), (53, (.op 1 (i * 4)))]) (by kernel_rfl) (by kernel_rfl) (by kernel_rfl) (by kernel_rfl) (by kernel_rfl) (by kernel_rfl) (by (rw [List.length_map]; omega)) (by kernel_rfl) ?_
     refine Ua (b := 1) (o := i * 4) (off := 2) (s' := [(0, (.ptr 0 0)), (3, (.fp (.agg [(.str r.name), (.int .i64 r.prio), (.bool r.inst), (Ac 12 As r.pkgs)]))), (7, (.int .i64 ((i : Int)))), (47, (.bool true)), (51, (.own 1)), (52, (.int .i64 ((i : Int)))), (53, (.op 1 (i * 4))), (54, (.op 1 (i * 4 + 2)))]) (by kernel_rfl) (by kernel_rfl) (by kernel_rfl) (by kernel_rfl) ?_
     refine Qi (b := 1) (e := 41) (sz := 4) (es := st.repos.map Bf) (o := i * 4 + 2) (i := i) (j := 2) (a := (.agg [(.str ((nth st.repos i).name)), (.int .i64 ((nth st.repos i).prio)), (.bool ((nth st.repos i).inst)), (Ac 12 As ((nth st.repos i).pkgs))])) (r := (.bool ((nth st.repos i).inst))) (s' := [(0, (.ptr 0 0)), (3, (.fp (.agg [(.str r.name), (.int .i64 r.prio), (.bool r.inst), (Ac 12 As r.pkgs)]))), (7, (.int .i64 ((i : Int)))), (47, (.bool true)), (51, (.own 1)), (52, (.int .i64 ((i : Int)))), (53, (.op 1 (i * 4))), (54, (.op 1 (i * 4 + 2))), (55, (.bool ((nth st.repos i).inst)))]) (by kernel_rfl) (by kernel_rfl) rfl (by kernel_rfl) (Ll (l := st.repos) Bf (by omega)) (by kernel_rfl) (by kernel_rfl) ?_
     refine Av 11 [] [0, 3, 7, 56] [] hk0 v0 c0 ?_
     refine Bd (q := (nth st.repos i).inst) (by kernel_rfl) (fun c6 => ?_) (fun c6 => ?_)
     ·try simp only [Ao] at c6
      refine Aa [] [4] ?_
      refine Ag ?_
      refine D7 (.inl rfl) (al := [(.int .i64 67)]) (by kernel_rfl) ?_ ((by kernel_rfl : Dc 3 _ = some [(0, (.row [(.int .i64 st.kind), (.own 1), (.own 2)] 116)), (1, (.grow (st.repos.map Bf) 41 4)), (2, (.grow (pl.map atX) 142 2))]).trans ?_)
      all_goals have hN := Ki (l := st.repos) (p := fun o => decide (o.name = r.name)) (fun j hj => by simpa using f1_2 j (by omega))
      all_goals have hA : ¬ (Bp r.name = false ∨ st.repos.any (fun o => decide (o.name = r.name)) = true) := fun h => h.elim (fun h => by rw [c1] at h; cases h) (fun h => by rw [hN] at h; cases h)
      all_goals have hE : Ch st r = 67 := by unfold Ch; rw [if_neg hA, if_pos ⟨by assumption, Q2a (i := i) (by omega) (by assumption)⟩]
      ·rw [hE]; rfl
      ·rw [Ip hE (by decide), Nr hE (by decide)]
     ·try simp only [Ao] at c6
      refine Ai ?_
      refine Ap ?_
      refine Av 0 [] [0, 3, 7] [] hk0 v0 (cc 1 (p := (-9223372036854775808 ≤ (i : Int) + 1 ∧ (i : Int) + 1 ≤ 9223372036854775807)) (by omega) <| c0) ?_
      refine ⟨by kernel_rfl, _, ?_, i + 1, ?_, ?_, (by kernel_rfl), rfl⟩
      ·omega
      ·omega
      ·intro j hj
       by_cases h : j = i
       ·subst h; simp_all
       ·exact f2_2 j (by omega)
    ·refine Fu 47 (a := .bool r.inst) (.bool false) (by kernel_rfl) (Imp.of_eq (by rw [c5])) ?_
     refine Av 3 [] [0, 3, 7, 56] [] hk0 v0 c0 ?_
     refine Ei (by kernel_rfl) ?_
     refine Ai ?_
     refine Ap ?_
     refine Av 0 [] [0, 3, 7] [] hk0 v0 (cc 1 (p := (-9223372036854775808 ≤ (i : Int) + 1 ∧ (i : Int) + 1 ≤ 9223372036854775807)) (by omega) <| c0) ?_
     refine ⟨by kernel_rfl, _, ?_, i + 1, ?_, ?_, (by kernel_rfl), rfl⟩
     ·omega
     ·omega
     ·intro j hj
      by_cases h : j = i
      ·subst h; simp_all
      ·exact f2_2 j (by omega)
   ·refine Br ?_
    refine Ad ?_
    refine Dt (fun y => y = ⟨[(0, (.ptr 0 0)), (3, (.fp (.agg [(.str r.name), (.int .i64 r.prio), (.bool r.inst), (Ac 12 As r.pkgs)]))), (74, (.bool (decide ((8 : Int) ≤ ((st.repos.map Bf).length : Int)) || decide ((200 : Int) < ((pl.map atX).length : Int) + (r.pkgs.length : Int)))))], [(0, (.row [(.int .i64 st.kind), (.own 1), (.own 2)] 116)), (1, (.grow (st.repos.map Bf) 41 4)), (2, (.grow (pl.map atX) 142 2))], 4⟩) [0, 3, 74] 4 (by omega) ?_ ?_
    ·refine Gy (CS := [(8, ((!(decide (8 ≤ ((st.repos.map Bf).length : Int)))) = true → (!(decide (8 ≤ ((st.repos.map Bf).length : Int)))) = true)), (9, ((!(decide (8 ≤ ((st.repos.map Bf).length : Int)))) = true → (!(decide (8 ≤ ((st.repos.map Bf).length : Int)))) = true)), (10, ((!(decide (8 ≤ ((st.repos.map Bf).length : Int)))) = true → (!(decide (8 ≤ ((st.repos.map Bf).length : Int)))) = true)), (11, ((!(decide (8 ≤ ((st.repos.map Bf).length : Int)))) = true → (!(decide (8 ≤ ((st.repos.map Bf).length : Int)))) = true)), (13, ((!(decide (8 ≤ ((st.repos.map Bf).length : Int)))) = true → (!(decide (8 ≤ ((st.repos.map Bf).length : Int)))) = true)), (14, ((!(decide (8 ≤ ((st.repos.map Bf).length : Int)))) = true → (!(decide (8 ≤ ((st.repos.map Bf).length : Int)))) = true)), (15, ((!(decide (8 ≤ ((st.repos.map Bf).length : Int)))) = true → ((!(decide (8 ≤ ((st.repos.map Bf).length : Int)))) = true ∧ (!(decide (8 ≤ ((st.repos.map Bf).length : Int)))) = true) ∧ (-9223372036854775808 ≤ ((pl.map atX).length : Int) + (r.pkgs.length : Int) ∧ ((pl.map atX).length : Int) + (r.pkgs.length : Int) ≤ 9223372036854775807))), (16, ((!(decide (8 ≤ ((st.repos.map Bf).length : Int)))) = true → (!(decide (8 ≤ ((st.repos.map Bf).length : Int)))) = true)), (17, ((decide (8 ≤ ((st.repos.map Bf).length : Int))) = false → (!(decide (8 ≤ ((st.repos.map Bf).length : Int)))) = true))]) [64, 65, 66, 67, 68, 69, 70, 71, 72, 73] [0, 3, 74] [] hk0 v0 (by refine cc _ ?_ <| cc _ ?_ <| cc _ ?_ <| cc _ ?_ <| cc _ ?_ <| cc _ ?_ <| cc _ ?_ <| cc _ ?_ <| cc _ ?_ c0 <;> first | omega | (simp; omega) | (simp; done) | (intros; simp_all; omega) | (intros; simp_all; done)) ?_
     refine ⟨by kernel_rfl, (by kernel_rfl)⟩
    ·rintro y1 rfl
     refine Bd (q := decide ((8 : Int) ≤ ((st.repos.map Bf).length : Int)) || decide ((200 : Int) < ((pl.map atX).length : Int) + (r.pkgs.length : Int))) (by kernel_rfl) (fun c7 => ?_) (fun c7 => ?_)
     ·try simp only [Ao] at c7
      refine Aa [] [4] ?_
      refine Ag ?_
      refine D7 (.inl rfl) (al := [(.int .i64 68)]) (by kernel_rfl) ?_ ((by kernel_rfl : Dc 3 _ = some [(0, (.row [(.int .i64 st.kind), (.own 1), (.own 2)] 116)), (1, (.grow (st.repos.map Bf) 41 4)), (2, (.grow (pl.map atX) 142 2))]).trans ?_)
      all_goals have hN := Ki (l := st.repos) (p := fun o => decide (o.name = r.name)) (fun j hj => by simpa using f1_2 j (by omega))
      all_goals have hA : ¬ (Bp r.name = false ∨ st.repos.any (fun o => decide (o.name = r.name)) = true) := fun h => h.elim (fun h => by rw [c1] at h; cases h) (fun h => by rw [hN] at h; cases h)
      all_goals have hI : ¬ (r.inst = true ∧ st.repos.any (fun o => o.inst) = true) := fun ⟨h1, h2⟩ => by rw [Ki (fun j hj => by have := f2_2 j (by omega); simpa [h1] using this)] at h2; cases h2
      all_goals have hE : Ch st r = 68 := by unfold Ch; rw [if_neg hA, if_neg hI, if_pos (by omega)]
      ·rw [hE]; rfl
      ·rw [Ip hE (by decide), Nr hE (by decide)]
     ·try simp only [Ao] at c7
      refine Ai ?_
      refine Ad ?_
      refine Aa [] [0, 3, 8] ?_
      refine A1 ?_
      refine Bv (fun g y => ∃ (i : Nat), i ≤ r.pkgs.length ∧ (∀ j, j < i → Dv (nth r.pkgs j) = 0) ∧ y = ⟨[(0, (.ptr 0 0)), (3, (.fp (.agg [(.str r.name), (.int .i64 r.prio), (.bool r.inst), (Ac 12 As r.pkgs)]))), (8, (.int .i64 ((i : Int))))], [(0, (.row [(.int .i64 st.kind), (.own 1), (.own 2)] 116)), (1, (.grow (st.repos.map Bf) 41 4)), (2, (.grow (pl.map atX) 142 2))], 4⟩ ∧ g = r.pkgs.length - i) [0, 3, 8] 4 _ (by omega) ⟨0, (by omega), (by exact fun j hj => by omega), (by kernel_rfl), rfl⟩ ?_
      rintro g3 y3 ⟨i, f3_1, f3_2, rfl, rfl⟩
      refine Ad ?_
      refine Aa [] [0, 3, 8, 79] ?_
      refine A6 (p := (i : Int) < (r.pkgs.length : Int)) (by kernel_rfl) (fun c8 => ?_) (fun c8 => ?_)
      ·refine Ai ?_
       refine Ad ?_
       refine A1 ?_
       refine Ah [] [0, 3, 8, 9] [] (hk 5 Q9q (Q5p (nth r.pkgs i) (hp i (by omega))) <| hk0) v0 (cc 3 (p := (0 ≤ (i : Int) ∧ i < r.pkgs.length)) (by omega) <| c0) ?_
       refine Aa [] [0, 3, 8, 9, 89] ?_
       refine Da (p := (Dv (nth r.pkgs i)) = 0) (by kernel_rfl) (fun c9 => ?_) (fun c9 => ?_)
       ·refine Aa [] [4] ?_
        refine Ag ?_
        refine D7 (.inl rfl) (al := [(.int .i64 (Dv (nth r.pkgs i)))]) (by kernel_rfl) ?_ ((by kernel_rfl : Dc 3 _ = some [(0, (.row [(.int .i64 st.kind), (.own 1), (.own 2)] 116)), (1, (.grow (st.repos.map Bf) 41 4)), (2, (.grow (pl.map atX) 142 2))]).trans ?_)
        all_goals have hN := Ki (l := st.repos) (p := fun o => decide (o.name = r.name)) (fun j hj => by simpa using f1_2 j (by omega))
        all_goals have hA : ¬ (Bp r.name = false ∨ st.repos.any (fun o => decide (o.name = r.name)) = true) := fun h => h.elim (fun h => by rw [c1] at h; cases h) (fun h => by rw [hN] at h; cases h)
        all_goals have hI : ¬ (r.inst = true ∧ st.repos.any (fun o => o.inst) = true) := fun ⟨h1, h2⟩ => by rw [Ki (fun j hj => by have := f2_2 j (by omega); simpa [h1] using this)] at h2; cases h2
        all_goals have hE : Ch st r = Dv (nth r.pkgs i) := by unfold Ch; rw [if_neg hA, if_neg hI, if_neg (by omega)]; exact Sn (by omega) f3_2 (by assumption)
        ·rw [hE]; rfl
        ·rw [Ip hE (by assumption), Nr hE (by assumption)]
       ·refine Ai ?_
        refine Ap ?_
        refine Av 0 [] [0, 3, 8] [] hk0 v0 (cc 1 (p := (-9223372036854775808 ≤ (i : Int) + 1 ∧ (i : Int) + 1 ≤ 9223372036854775807)) (by omega) <| c0) ?_
        refine ⟨by kernel_rfl, _, ?_, i + 1, ?_, ?_, (by kernel_rfl), rfl⟩
        ·omega
        ·omega
        ·intro j hj
         by_cases h : j = i
         ·subst h; simp_all
         ·exact f3_2 j (by omega)
      ·refine Br ?_
       refine Ad ?_
       refine Aa [] [0, 3, 10] ?_
       refine A1 ?_
       refine Bv (fun g y => ∃ (i : Nat), i ≤ r.pkgs.length ∧ y = ⟨[(0, (.ptr 0 0)), (3, (.fp (.agg [(.str r.name), (.int .i64 r.prio), (.bool r.inst), (Ac 12 As r.pkgs)]))), (10, (.int .i64 ((i : Int))))], [(0, (.row [(.int .i64 st.kind), (.own 1), (.own 2)] 116)), (1, (.grow (st.repos.map Bf) 41 4)), (2, (.grow ((Cu pl st r i).map atX) 142 2))], 4⟩ ∧ g = r.pkgs.length - i) [0, 3, 10] 4 _ (by omega) ⟨0, (by omega), (Eq.trans (b := (⟨[(0, (.ptr 0 0)), (3, (.fp (.agg [(.str r.name), (.int .i64 r.prio), (.bool r.inst), (Ac 12 As r.pkgs)]))), (10, (.int .i64 0))], [(0, (.row [(.int .i64 st.kind), (.own 1), (.own 2)] 116)), (1, (.grow (st.repos.map Bf) 41 4)), (2, (.grow (pl.map atX) 142 2))], 4⟩ : St)) (by kernel_rfl) (by rw [show Cu pl st r 0 = pl from by simp [Cu]] <;> rfl)), rfl⟩ ?_
       rintro g4 y4 ⟨i, f4_1, rfl, rfl⟩
       have hkl : ((Cu pl st r i).map atX).length ≤ 200 := by rw [List.length_map, X2z]; omega
       refine Ad ?_
       refine Aa [] [0, 3, 10, 95] ?_
       refine A6 (p := (i : Int) < (r.pkgs.length : Int)) (by kernel_rfl) (fun c10 => ?_) (fun c10 => ?_)
       ·refine Ai ?_
        refine Dt (fun y => y = ⟨[(0, (.ptr 0 0)), (3, (.fp (.agg [(.str r.name), (.int .i64 r.prio), (.bool r.inst), (Ac 12 As r.pkgs)]))), (10, (.int .i64 ((i : Int))))], [(0, (.row [(.int .i64 st.kind), (.own 1), (.own 2)] 116)), (1, (.grow (st.repos.map Bf) 41 4)), (2, (.grow ((Cu pl st r (i + 1)).map atX) 142 2))], 4⟩) [0, 3, 10] 4 (by omega) ?_ ?_
        ·refine A1 ?_
         refine Gy [] [0, 3, 10] [] hk0 v0 (cc 13 (p := ((((Cu pl st r i).map atX).length + 1) * 16 ≤ 140737488355328)) (by omega) <| c0) ?_
         refine ⟨by kernel_rfl, (Eq.trans (b := (⟨[(0, (.ptr 0 0)), (3, (.fp (.agg [(.str r.name), (.int .i64 r.prio), (.bool r.inst), (Ac 12 As r.pkgs)]))), (10, (.int .i64 ((i : Int))))], [(0, (.row [(.int .i64 st.kind), (.own 1), (.own 2)] 116)), (1, (.grow (st.repos.map Bf) 41 4)), (2, (.grow (((Cu pl st r i).map atX) ++ ([(.agg [(.int .i64 (((st.repos.map Bf).length : Int))), (.int .i64 ((i : Int)))])] : List AV)) 142 2))], 4⟩ : St)) (by kernel_rfl) (by rw [show (((Cu pl st r i).map atX) ++ ([(.agg [(.int .i64 (((st.repos.map Bf).length : Int))), (.int .i64 ((i : Int)))])] : List AV)) = (Cu pl st r (i + 1)).map atX from by rw [X2y, List.map_append, List.length_map]; rfl] <;> kernel_rfl))⟩
        ·rintro y2 rfl
         refine Ap ?_
         refine Av 0 [] [0, 3, 10] [] hk0 v0 (cc 1 (p := (-9223372036854775808 ≤ (i : Int) + 1 ∧ (i : Int) + 1 ≤ 9223372036854775807)) (by omega) <| c0) ?_
         refine ⟨by kernel_rfl, _, ?_, i + 1, ?_, (by kernel_rfl), rfl⟩
         ·omega
         ·omega
       ·refine Br ?_
        refine Dt (fun y => y = ⟨[], [(0, (.row [(.int .i64 st.kind), (.own 1), (.own 2)] 116)), (1, (.grow ((st.repos ++ [r]).map Bf) 41 4)), (2, (.grow ((Cu pl st r i).map atX) 142 2))], 4⟩) [] 4 (by omega) ?_ ?_
        ·refine Gy [] [] [] hk0 v0 (cc 7 (p := (((st.repos.map Bf).length + 1) * 56 ≤ 140737488355328)) (by omega) <| c0) ?_
         refine ⟨by kernel_rfl, (Eq.trans (b := (⟨[], [(0, (.row [(.int .i64 st.kind), (.own 1), (.own 2)] 116)), (1, (.grow ((st.repos.map Bf) ++ ([(.agg [(.str r.name), (.int .i64 r.prio), (.bool r.inst), (Ac 12 As r.pkgs)])] : List AV)) 41 4)), (2, (.grow ((Cu pl st r i).map atX) 142 2))], 4⟩ : St)) (by kernel_rfl) (by rw [show ((st.repos.map Bf) ++ ([(.agg [(.str r.name), (.int .i64 r.prio), (.bool r.inst), (Ac 12 As r.pkgs)])] : List AV)) = (st.repos ++ [r]).map Bf from by rw [List.map_append]; rfl] <;> kernel_rfl))⟩
        ·rintro y3 rfl
         refine Aa [] [4] ?_
         refine Ag ?_
         refine D7 (.inl rfl) (al := [(.int .i64 0)]) (by kernel_rfl) ?_ ((by kernel_rfl : Dc 3 _ = some [(0, (.row [(.int .i64 st.kind), (.own 1), (.own 2)] 116)), (1, (.grow ((st.repos ++ [r]).map Bf) 41 4)), (2, (.grow ((Cu pl st r i).map atX) 142 2))]).trans ?_)
         all_goals have hN := Ki (l := st.repos) (p := fun o => decide (o.name = r.name)) (fun j hj => by simpa using f1_2 j (by omega))
         all_goals have hA : ¬ (Bp r.name = false ∨ st.repos.any (fun o => decide (o.name = r.name)) = true) := fun h => h.elim (fun h => by rw [c1] at h; cases h) (fun h => by rw [hN] at h; cases h)
         all_goals have hI : ¬ (r.inst = true ∧ st.repos.any (fun o => o.inst) = true) := fun ⟨h1, h2⟩ => by rw [Ki (fun j hj => by have := f2_2 j (by omega); simpa [h1] using this)] at h2; cases h2
         all_goals have hE : Ch st r = 0 := by unfold Ch; rw [if_neg hA, if_neg hI, if_neg (by omega)]; exact Zn fun j hj => f3_2 j (by omega)
         ·rw [hE]; rfl
         ·unfold Cd En; rw [if_pos hE, if_pos hE, show i = r.pkgs.length from by omega]
end Sv
end Go.Proofs.YtlmloohlmlahfaaGreatDoor
end
section
namespace Go.Proofs.YtlmloohlmlahfaaGreatDoor
open Go Go.RowKit
namespace Sv
attribute [local irreducible] SW SO Bn
set_option maxHeartbeats 1000000
set_option maxRecDepth 100000
theorem Zx : Au Tryz.prog 9 := Ay Tryz.func9 (by kernel_rfl) rfl
theorem Q95 : Au Tryz.prog 39 := Ay Tryz.func39 (by kernel_rfl) rfl
theorem Q94 : Au Tryz.prog 40 := Ay Tryz.func40 (by kernel_rfl) rfl
def Am (k : Int) : Int := if k = 2 then 2 else 1
theorem Yn (k : Int) : Am k = 1 ∨ Am k = 2 := by unfold Am; split <;> simp
theorem Q8d {k : Int} (h : k = 2) : Am k = k := by unfold Am; rw [if_pos h, h]
def Ho : List PkgT → Nat
 | [] => 0
 | p :: r => 1 + p.size + Ho r
theorem We : ∀ l : List PkgT, l.length ≤ Ho l
 | [] => Nat.zero_le _
 | p :: r => by have := We r; simp only [Ho, List.length_cons]; omega
theorem Wf : ∀ {l : List PkgT} {i : Nat}, i < l.length → (nth l i).size ≤ Ho l
 | [], _, h => by simp at h
 | p :: r, 0, _ => by simp only [Ho]; show p.size ≤ _; omega
 | p :: r, i + 1, h => by
  have := Wf (l := r) (i := i) (by simpa using h)
  simp only [Ho]; show (nth r i).size ≤ _; omega
def _root_.Go.Proofs.YtlmloohlmlahfaaGreatDoor.RepoT.size (r : RepoT) : Nat := 1 + r.name.length + Ho r.pkgs
theorem _root_.Go.Proofs.YtlmloohlmlahfaaGreatDoor.RepoT.sizes (r : RepoT) : r.name.length ≤ r.size ∧ r.pkgs.length ≤ r.size := by
 have := We r.pkgs
 unfold RepoT.size; omega
theorem _root_.Go.Proofs.YtlmloohlmlahfaaGreatDoor.RepoT.size_pkg {r : RepoT} {i : Nat} (h : i < r.pkgs.length) : (nth r.pkgs i).size ≤ r.size := by
 have := Wf h
 unfold RepoT.size; omega
def An (k : Int) (l : List RepoT) : PoolT × List (Int × Int) := l.foldl (fun s r => (Cd s.1 r, En s.2 s.1 r)) (⟨k, [], []⟩, [])
def Ke (s : PoolT × List (Int × Int)) : Prop := s.1.repos.length ≤ 8 ∧ s.1.all.length ≤ 200 ∧ s.2.length = s.1.all.length
theorem X2q {s : PoolT × List (Int × Int)} {r : RepoT} (h : Ke s) : Ke (Cd s.1 r, En s.2 s.1 r) := by
 obtain ⟨h1, h2, h3⟩ := h
 by_cases he : Ch s.1 r = 0
 ·have hm : ¬ (8 ≤ s.1.repos.length ∨ 200 < s.1.all.length + r.pkgs.length) := by
   intro q
   unfold Ch at he
   rw [if_pos q] at he
   split at he <;> first | omega | (split at he <;> omega)
  unfold Ke Cd En
  simp only [if_pos he, List.length_append, List.length_singleton, Ax, Cu, List.length_map, List.length_take, List.length_range]
  omega
 ·unfold Ke Cd En
  rw [if_neg he, if_neg he]; exact ⟨h1, h2, h3⟩
theorem Q1q (k : Int) (l : List RepoT) : Ke (An k l) := by
 have key : ∀ (l : List RepoT) (s : PoolT × List (Int × Int)), Ke s → Ke (l.foldl (fun s r => (Cd s.1 r, En s.2 s.1 r)) s) := by
  intro l
  induction l with
  | nil => exact fun s h => h
  | cons r l ih => exact fun s h => ih _ (X2q h)
 exact key l _ ⟨by simp, by simp, by simp⟩
theorem X2n {k : Int} {l : List RepoT} {i : Nat} (h : i < l.length) : An k (l.take (i + 1)) = (Cd (An k (l.take i)).1 (nth l i), En (An k (l.take i)).2 (An k (l.take i)).1 (nth l i)) := by
 unfold An
 rw [List.take_add_one, List.getElem?_eq_getElem h, List.foldl_append]
 simp [nth, h]
noncomputable def Bo (st : PoolT) : AV := .agg [.int .i64 st.kind, Ac 4 Ba st.repos, Ac 13 Bc st.all, .smap (.slice none 0 0) (fun s => .row 1 (A9 st.all s).length (fun i => (A9 st.all s).getD i Bm))]
noncomputable def Jt (st : PoolT) (pl : List (Int × Int)) : AV := .agg [.int .i64 st.kind, Ac 4 Bf st.repos, Ac 2 atX pl]
theorem Q3g (kind : Int) (l : List RepoT) (hll : l.length ≤ 4611686018427387904) (hl : ∀ i, i < l.length → (nth l i).size ≤ 4194304) :
  FnV Tryz.prog 9 [(.int .i64 kind), (Ac 4 Bf l)] (.tup [.fp (Bo (An (Am kind) l).1), .fp (Jt (An (Am kind) l).1 (An (Am kind) l).2)]) := by
 refine A4 [.tmp 4, .tmp 5] Tryz.func9 rfl Tryz.ntmps9 rfl rfl (fun B F hF => ?_)
 refine Aa [] [0, 1] ?_
 refine Dt (fun y => y = ⟨[(0, (.int .i64 ((Am kind)))), (1, (Ac 4 Bf l))], [], 0⟩) [0, 1] 0 (by omega) ?_ ?_
 ·refine Aa [] [0, 1, 12] ?_
  refine Da (p := kind = 2) (by kernel_rfl) (fun c1 => ?_) (fun c1 => ?_)
  ·refine Ap ?_
   refine Fv [] [0, 1] ?_
   refine ⟨by kernel_rfl, (Eq.trans (b := (⟨[(0, (.int .i64 1)), (1, (Ac 4 Bf l))], [], 0⟩ : St)) (by kernel_rfl) (by rw [show Am kind = 1 from if_neg (by assumption)] <;> rfl))⟩
  ·refine Ai ?_
   refine ⟨by kernel_rfl, (Eq.trans (b := (⟨[(0, (.int .i64 kind)), (1, (Ac 4 Bf l))], [], 0⟩ : St)) (by kernel_rfl) (by rw [show Am kind = kind from Q8d (by omega)] <;> rfl))⟩
 ·rintro y1 rfl
  refine Ad ?_
  refine Ap ?_
  refine Bq 1 0 [] [0, 1, 14] [] hk0 v0 c0 ?_
  refine Jl [.tmp 2, .tmp 3] (al := [(.int .i64 ((Am kind)))]) (s0 := [(0, (.int .i64 ((Am kind)))), (1, (Ac 4 Bf l)), (14, (.int .i64 ((Am kind))))]) (by kernel_rfl) (by exact Q95) (by kernel_rfl) Tryz.func39 rfl Tryz.ntmps39 rfl (by kernel_rfl) (by kernel_rfl) (fun F1 hF1 hle1 => ?_)
  refine Aa [] [0] ?_
  refine Ad ?_
  obtain ⟨b1_1, hb1_1⟩ : ∃ b, b = (!decide ((Am kind) = 1)) := ⟨_, rfl⟩
  refine Ah (CS := [(4, (b1_1 = true → b1_1 = true)), (5, (b1_1 = true → b1_1 = true))]) [7, 8] [0, 9] [] hk0 (vk 3 6 (a := .bool (!decide ((Am kind) = 1))) (b := .bool b1_1) (Imp.of_eq (by rw [hb1_1])) <| v0) (by refine cc _ ?_ <| cc _ ?_ c0 <;> simp) ?_
  refine Bd (q := b1_1 && (!decide ((Am kind) = 2))) (by kernel_rfl) (fun c2 => ?_) (fun c2 => ?_)
  ·subst hb1_1
   try simp only [Ao] at c2
   exact absurd (Yn kind) fun h => h.elim c2.1 c2.2
  ·subst hb1_1
   try simp only [Ao] at c2
   refine Ai ?_
   refine Aa [] [2, 3] ?_
   refine Ag ?_
   refine Gp (.inl rfl) (al := [(.ptr 1 0), (.int .i64 0)]) (s' := [(0, (.int .i64 ((Am kind)))), (1, (Ac 4 Bf l)), (14, (.int .i64 ((Am kind)))), (15, (.tup [(.ptr 1 0), (.int .i64 0)]))]) (by kernel_rfl) (by kernel_rfl) ?_
   refine Av 2 [] [0, 1, 6, 7] [] hk0 v0 c0 ?_
   refine Ad ?_
   refine Ap ?_
   refine Bq 1 0 [] [1, 6, 7, 19] [] hk0 v0 c0 ?_
   refine Jl [.tmp 2, .tmp 3] (al := [(.int .i64 ((Am kind)))]) (s0 := [(1, (Ac 4 Bf l)), (6, (.ptr 1 0)), (7, (.int .i64 0)), (19, (.int .i64 ((Am kind))))]) (by kernel_rfl) (by exact Q94) (by kernel_rfl) Tryz.func40 rfl Tryz.ntmps40 rfl (by kernel_rfl) (by kernel_rfl) (fun F2 hF2 hle2 => ?_)
   refine Aa [] [0] ?_
   refine Ad ?_
   obtain ⟨b2_1, hb2_1⟩ : ∃ b, b = (!decide ((Am kind) = 1)) := ⟨_, rfl⟩
   refine Ah (CS := [(4, (b2_1 = true → b2_1 = true)), (5, (b2_1 = true → b2_1 = true))]) [7, 8] [0, 9] [] hk0 (vk 3 6 (a := .bool (!decide ((Am kind) = 1))) (b := .bool b2_1) (Imp.of_eq (by rw [hb2_1])) <| v0) (by refine cc _ ?_ <| cc _ ?_ c0 <;> simp) ?_
   refine Bd (q := b2_1 && (!decide ((Am kind) = 2))) (by kernel_rfl) (fun c3 => ?_) (fun c3 => ?_)
   ·subst hb2_1
    try simp only [Ao] at c3
    exact absurd (Yn kind) fun h => h.elim c3.1 c3.2
   ·subst hb2_1
    try simp only [Ao] at c3
    refine Ai ?_
    refine Aa [] [2, 3] ?_
    refine Ag ?_
    refine Gp (.inl rfl) (al := [(.ptr 2 0), (.int .i64 0)]) (s' := [(1, (Ac 4 Bf l)), (6, (.ptr 1 0)), (7, (.int .i64 0)), (19, (.int .i64 ((Am kind)))), (20, (.tup [(.ptr 2 0), (.int .i64 0)]))]) (by kernel_rfl) (by kernel_rfl) ?_
    refine Av 2 [] [1, 6, 7, 8] [] hk0 v0 c0 ?_
    refine Ad ?_
    refine Aa [] [1, 6, 8, 28] ?_
    refine Ei (by kernel_rfl) ?_
    refine Ai ?_
    refine Ad ?_
    refine Aa [] [1, 6, 8, 10] ?_
    refine A1 ?_
    refine L3 41 4 1 1 (y := ⟨[(1, (Ac 4 Bf l)), (6, (.ptr 1 0)), (8, (.ptr 2 0)), (10, (.int .i64 0))], [(0, (.map [] 0)), (1, (.row [(.int .i64 ((Am kind))), (.own 3), .nils, (.map 0)] 101)), (2, (.row [(.int .i64 ((Am kind))), .nils, .nils] 116)), (3, (.grow [] 41 4))], 4⟩) (by kernel_rfl) (by kernel_rfl) ?_
    refine L3 106 13 1 2 (y := ⟨[(1, (Ac 4 Bf l)), (6, (.ptr 1 0)), (8, (.ptr 2 0)), (10, (.int .i64 0))], [(0, (.map [] 0)), (1, (.row [(.int .i64 ((Am kind))), (.own 3), (.own 4), (.map 0)] 101)), (2, (.row [(.int .i64 ((Am kind))), .nils, .nils] 116)), (3, (.grow [] 41 4)), (4, (.grow [] 106 13))], 5⟩) (by kernel_rfl) (by kernel_rfl) ?_
    refine L3 41 4 2 1 (y := ⟨[(1, (Ac 4 Bf l)), (6, (.ptr 1 0)), (8, (.ptr 2 0)), (10, (.int .i64 0))], [(0, (.map [] 0)), (1, (.row [(.int .i64 ((Am kind))), (.own 3), (.own 4), (.map 0)] 101)), (2, (.row [(.int .i64 ((Am kind))), (.own 5), .nils] 116)), (3, (.grow [] 41 4)), (4, (.grow [] 106 13)), (5, (.grow [] 41 4))], 6⟩) (by kernel_rfl) (by kernel_rfl) ?_
    refine L3 142 2 2 2 (y := ⟨[(1, (Ac 4 Bf l)), (6, (.ptr 1 0)), (8, (.ptr 2 0)), (10, (.int .i64 0))], [(0, (.map [] 0)), (1, (.row [(.int .i64 ((Am kind))), (.own 3), (.own 4), (.map 0)] 101)), (2, (.row [(.int .i64 ((Am kind))), (.own 5), (.own 6)] 116)), (3, (.grow [] 41 4)), (4, (.grow [] 106 13)), (5, (.grow [] 41 4)), (6, (.grow [] 142 2))], 7⟩) (by kernel_rfl) (by kernel_rfl) ?_
    refine Q21 0 3 1 (y := ⟨[(1, (Ac 4 Bf l)), (6, (.ptr 1 0)), (8, (.ptr 2 0)), (10, (.int .i64 0))], [(0, (.mm (fun _ => []) none 3 1)), (1, (.row [(.int .i64 ((Am kind))), (.own 3), (.own 4), (.map 0)] 101)), (2, (.row [(.int .i64 ((Am kind))), (.own 5), (.own 6)] 116)), (3, (.grow [] 41 4)), (4, (.grow [] 106 13)), (5, (.grow [] 41 4)), (6, (.grow [] 142 2))], 7⟩) (by kernel_rfl) ?_
    refine Bv (fun g y => ∃ (i : Nat), i ≤ l.length ∧ y = ⟨[(1, (Ac 4 Bf l)), (6, (.ptr 1 0)), (8, (.ptr 2 0)), (10, (.int .i64 ((i : Int))))], [(0, (.mm (A9 ((An (Am kind) (l.take i)).1).all) none 3 1)), (1, (.row [(.int .i64 ((An (Am kind) (l.take i)).1.kind)), (.own 3), (.own 4), (.map 0)] 101)), (2, (.row [(.int .i64 ((An (Am kind) (l.take i)).1.kind)), (.own 5), (.own 6)] 116)), (3, (.grow (((An (Am kind) (l.take i)).1).repos.map Ba) 41 4)), (4, (.grow (((An (Am kind) (l.take i)).1).all.map Bc) 106 13)), (5, (.grow (((An (Am kind) (l.take i)).1).repos.map Bf) 41 4)), (6, (.grow (((An (Am kind) (l.take i)).2).map atX) 142 2))], 7⟩ ∧ g = l.length - i) [1, 6, 8, 10] 7 _ (by omega) ⟨0, (by omega), (by kernel_rfl), rfl⟩ ?_
    rintro g1 y1 ⟨i, f1_1, rfl, rfl⟩
    have hb := Q1q (Am kind) (l.take i)
    refine Ad ?_
    refine Aa [] [1, 6, 8, 10, 32] ?_
    refine A6 (p := (i : Int) < (l.length : Int)) (by kernel_rfl) (fun c4 => ?_) (fun c4 => ?_)
    ·have hz := RepoT.sizes (nth l i)
     have hw := hl i (by omega)
     refine Ai ?_
     refine Ad ?_
     refine A1 ?_
     refine Ad ?_
     refine It (by kernel_rfl) (fun F1 hF1 => ?_)
     refine C0 (fuel := 3) [] [0, 1, 2, 3, 4, 6, 7, 8, 9, 10] [1, 6, 8, 10, 35, 39, 41, 45] (hold (p := (0 ≤ (i : Int) ∧ i < l.length) ∧ (0 ≤ (i : Int) ∧ i < l.length)) (by omega)) ?_
     refine Fx (fuel := 2) 5 (by kernel_rfl) ?_
     refine Db (fuel := 2) 5 rfl ?_
     refine L6 [1, 3, 4, 0] (al := [(.ptr 1 0), (.agg [(.str ((nth l i).name)), (.int .i64 ((nth l i).prio)), (.bool ((nth l i).inst)), (Ac 12 As ((nth l i).pkgs))])]) (al' := [(.ptr 0 0), (.agg [(.str ((nth l i).name)), (.int .i64 ((nth l i).prio)), (.bool ((nth l i).inst)), (Ac 12 As ((nth l i).pkgs))])]) (r := (.int .i64 (Ch (An (Am kind) (l.take i)).1 (nth l i)))) (r' := (.int .i64 (Ch (An (Am kind) (l.take i)).1 (nth l i)))) (s' := [(1, (Ac 4 Bf l)), (6, (.ptr 1 0)), (8, (.ptr 2 0)), (10, (.int .i64 ((i : Int)))), (35, (.ptr 1 0)), (39, (.agg [(.str ((nth l i).name)), (.int .i64 ((nth l i).prio)), (.bool ((nth l i).inst)), (Ac 12 As ((nth l i).pkgs))])), (41, (.ptr 2 0)), (45, (.agg [(.str ((nth l i).name)), (.int .i64 ((nth l i).prio)), (.bool ((nth l i).inst)), (Ac 12 As ((nth l i).pkgs))])), (40, (.int .i64 (Ch (An (Am kind) (l.take i)).1 (nth l i))))]) (H := [(0, (.row [(.int .i64 ((An (Am kind) (l.take i)).1.kind)), (.own 1), (.own 2), (.map 3)] 101)), (1, (.grow (((An (Am kind) (l.take i)).1).repos.map Ba) 41 4)), (2, (.grow (((An (Am kind) (l.take i)).1).all.map Bc) 106 13)), (3, (.mm (A9 ((An (Am kind) (l.take i)).1).all) none 3 1))]) (H' := [(0, (.row [(.int .i64 ((Cd (An (Am kind) (l.take i)).1 (nth l i)).kind)), (.own 1), (.own 2), (.map 3)] 101)), (1, (.grow ((Cd (An (Am kind) (l.take i)).1 (nth l i)).repos.map Ba) 41 4)), (2, (.grow ((Cd (An (Am kind) (l.take i)).1 (nth l i)).all.map Bc) 106 13)), (3, (.mm (A9 (Cd (An (Am kind) (l.take i)).1 (nth l i)).all) none 3 1))]) (h2 := [(0, (.mm (A9 (Cd (An (Am kind) (l.take i)).1 (nth l i)).all) none 3 1)), (1, (.row [(.int .i64 ((Cd (An (Am kind) (l.take i)).1 (nth l i)).kind)), (.own 3), (.own 4), (.map 0)] 101)), (2, (.row [(.int .i64 ((An (Am kind) (l.take i)).1.kind)), (.own 5), (.own 6)] 116)), (3, (.grow ((Cd (An (Am kind) (l.take i)).1 (nth l i)).repos.map Ba) 41 4)), (4, (.grow ((Cd (An (Am kind) (l.take i)).1 (nth l i)).all.map Bc) 106 13)), (5, (.grow (((An (Am kind) (l.take i)).1).repos.map Bf) 41 4)), (6, (.grow (((An (Am kind) (l.take i)).2).map atX) 142 2))]) (by kernel_rfl) (by exact X1h) (by kernel_rfl) (by kernel_rfl) (by kernel_rfl) (by kernel_rfl) (by kernel_rfl) (X5j (An (Am kind) (l.take i)).1 (nth l i) hb.1 hb.2.1 (by omega) (by omega) (fun j hj => Nat.le_trans (RepoT.size_pkg hj) (hl i (by omega)))) (by kernel_rfl) (by kernel_rfl) (by kernel_rfl) ?_
     refine Bx ⟨rfl, ?_⟩
     refine Fx (fuel := 1) 11 (by kernel_rfl) ?_
     refine Db (fuel := 1) 11 rfl ?_
     refine L6 [2, 5, 6] (al := [(.ptr 2 0), (.agg [(.str ((nth l i).name)), (.int .i64 ((nth l i).prio)), (.bool ((nth l i).inst)), (Ac 12 As ((nth l i).pkgs))])]) (al' := [(.ptr 0 0), (.agg [(.str ((nth l i).name)), (.int .i64 ((nth l i).prio)), (.bool ((nth l i).inst)), (Ac 12 As ((nth l i).pkgs))])]) (r := (.int .i64 (Ch (An (Am kind) (l.take i)).1 (nth l i)))) (r' := (.int .i64 (Ch (An (Am kind) (l.take i)).1 (nth l i)))) (s' := [(1, (Ac 4 Bf l)), (6, (.ptr 1 0)), (8, (.ptr 2 0)), (10, (.int .i64 ((i : Int)))), (35, (.ptr 1 0)), (39, (.agg [(.str ((nth l i).name)), (.int .i64 ((nth l i).prio)), (.bool ((nth l i).inst)), (Ac 12 As ((nth l i).pkgs))])), (41, (.ptr 2 0)), (45, (.agg [(.str ((nth l i).name)), (.int .i64 ((nth l i).prio)), (.bool ((nth l i).inst)), (Ac 12 As ((nth l i).pkgs))])), (40, (.int .i64 (Ch (An (Am kind) (l.take i)).1 (nth l i)))), (46, (.int .i64 (Ch (An (Am kind) (l.take i)).1 (nth l i))))]) (H := [(0, (.row [(.int .i64 ((An (Am kind) (l.take i)).1.kind)), (.own 1), (.own 2)] 116)), (1, (.grow (((An (Am kind) (l.take i)).1).repos.map Bf) 41 4)), (2, (.grow (((An (Am kind) (l.take i)).2).map atX) 142 2))]) (H' := [(0, (.row [(.int .i64 ((Cd (An (Am kind) (l.take i)).1 (nth l i)).kind)), (.own 1), (.own 2)] 116)), (1, (.grow ((Cd (An (Am kind) (l.take i)).1 (nth l i)).repos.map Bf) 41 4)), (2, (.grow ((En (An (Am kind) (l.take i)).2 (An (Am kind) (l.take i)).1 (nth l i)).map atX) 142 2))]) (h2 := [(0, (.mm (A9 (Cd (An (Am kind) (l.take i)).1 (nth l i)).all) none 3 1)), (1, (.row [(.int .i64 ((Cd (An (Am kind) (l.take i)).1 (nth l i)).kind)), (.own 3), (.own 4), (.map 0)] 101)), (2, (.row [(.int .i64 ((Cd (An (Am kind) (l.take i)).1 (nth l i)).kind)), (.own 5), (.own 6)] 116)), (3, (.grow ((Cd (An (Am kind) (l.take i)).1 (nth l i)).repos.map Ba) 41 4)), (4, (.grow ((Cd (An (Am kind) (l.take i)).1 (nth l i)).all.map Bc) 106 13)), (5, (.grow ((Cd (An (Am kind) (l.take i)).1 (nth l i)).repos.map Bf) 41 4)), (6, (.grow ((En (An (Am kind) (l.take i)).2 (An (Am kind) (l.take i)).1 (nth l i)).map atX) 142 2))]) (by kernel_rfl) (by exact Q93) (by kernel_rfl) (by kernel_rfl) (by kernel_rfl) (by kernel_rfl) (by kernel_rfl) (Q5s (An (Am kind) (l.take i)).1 (An (Am kind) (l.take i)).2 (nth l i) hb.1 hb.2.1 hb.2.2 (by omega) (by omega) (fun j hj => Nat.le_trans (RepoT.size_pkg hj) (hl i (by omega)))) (by kernel_rfl) (by kernel_rfl) (by kernel_rfl) ?_
     refine Bx ⟨rfl, ?_⟩
     refine C0 (fuel := 0) [] [12] [1, 6, 8, 10, 47] A0 ?_
     refine Az [1, 6, 8, 10, 47] ?_
     refine Gi (by kernel_rfl) ?_
     refine Da (p := (Ch (An (Am kind) (l.take i)).1 (nth l i)) = (Ch (An (Am kind) (l.take i)).1 (nth l i))) (by kernel_rfl) (fun c5 => ?_) (fun c5 => ?_)
     ·exact absurd rfl c5
     ·refine Ai ?_
      refine Ap ?_
      refine Av 0 [] [1, 6, 8, 10] [] hk0 v0 (cc 1 (p := (-9223372036854775808 ≤ (i : Int) + 1 ∧ (i : Int) + 1 ≤ 9223372036854775807)) (by omega) <| c0) ?_
      refine ⟨by kernel_rfl, _, ?_, i + 1, ?_, (Eq.trans (b := (⟨[(1, (Ac 4 Bf l)), (6, (.ptr 1 0)), (8, (.ptr 2 0)), (10, (.int .i64 ((i : Int) + 1)))], [(0, (.mm (A9 (Cd (An (Am kind) (l.take i)).1 (nth l i)).all) none 3 1)), (1, (.row [(.int .i64 ((Cd (An (Am kind) (l.take i)).1 (nth l i)).kind)), (.own 3), (.own 4), (.map 0)] 101)), (2, (.row [(.int .i64 ((Cd (An (Am kind) (l.take i)).1 (nth l i)).kind)), (.own 5), (.own 6)] 116)), (3, (.grow ((Cd (An (Am kind) (l.take i)).1 (nth l i)).repos.map Ba) 41 4)), (4, (.grow ((Cd (An (Am kind) (l.take i)).1 (nth l i)).all.map Bc) 106 13)), (5, (.grow ((Cd (An (Am kind) (l.take i)).1 (nth l i)).repos.map Bf) 41 4)), (6, (.grow ((En (An (Am kind) (l.take i)).2 (An (Am kind) (l.take i)).1 (nth l i)).map atX) 142 2))], 7⟩ : St)) (by kernel_rfl) (by rw [X2n (by omega)] <;> kernel_rfl)), rfl⟩
      ·omega
      ·omega
    ·refine Br ?_
     refine Ad ?_
     refine Ap ?_
     refine Jk 1 1 (y := ⟨[(1, (Ac 4 Bf l)), (6, (.ptr 1 0)), (8, (.ptr 2 0)), (10, (.int .i64 ((i : Int)))), (32, (.bool (decide ((i : Int) < (l.length : Int)))))], [(0, (.mm (A9 ((An (Am kind) (l.take i)).1).all) none 3 1)), (1, (.row [(.int .i64 ((An (Am kind) (l.take i)).1.kind)), (.row 4 (((An (Am kind) (l.take i)).1).repos.map Ba).length (fun ix => (((An (Am kind) (l.take i)).1).repos.map Ba).getD ix Bm)), (.own 4), (.map 0)] 101)), (2, (.row [(.int .i64 ((An (Am kind) (l.take i)).1.kind)), (.own 5), (.own 6)] 116)), (4, (.grow (((An (Am kind) (l.take i)).1).all.map Bc) 106 13)), (5, (.grow (((An (Am kind) (l.take i)).1).repos.map Bf) 41 4)), (6, (.grow (((An (Am kind) (l.take i)).2).map atX) 142 2))], 7⟩) (by kernel_rfl) ?_
     refine Jk 1 2 (y := ⟨[(1, (Ac 4 Bf l)), (6, (.ptr 1 0)), (8, (.ptr 2 0)), (10, (.int .i64 ((i : Int)))), (32, (.bool (decide ((i : Int) < (l.length : Int)))))], [(0, (.mm (A9 ((An (Am kind) (l.take i)).1).all) none 3 1)), (1, (.row [(.int .i64 ((An (Am kind) (l.take i)).1.kind)), (.row 4 (((An (Am kind) (l.take i)).1).repos.map Ba).length (fun ix => (((An (Am kind) (l.take i)).1).repos.map Ba).getD ix Bm)), (.row 13 (((An (Am kind) (l.take i)).1).all.map Bc).length (fun ix => (((An (Am kind) (l.take i)).1).all.map Bc).getD ix Bm)), (.map 0)] 101)), (2, (.row [(.int .i64 ((An (Am kind) (l.take i)).1.kind)), (.own 5), (.own 6)] 116)), (5, (.grow (((An (Am kind) (l.take i)).1).repos.map Bf) 41 4)), (6, (.grow (((An (Am kind) (l.take i)).2).map atX) 142 2))], 7⟩) (by kernel_rfl) ?_
     refine Jk 1 3 (y := ⟨[(1, (Ac 4 Bf l)), (6, (.ptr 1 0)), (8, (.ptr 2 0)), (10, (.int .i64 ((i : Int)))), (32, (.bool (decide ((i : Int) < (l.length : Int)))))], [(1, (.row [(.int .i64 ((An (Am kind) (l.take i)).1.kind)), (.row 4 (((An (Am kind) (l.take i)).1).repos.map Ba).length (fun ix => (((An (Am kind) (l.take i)).1).repos.map Ba).getD ix Bm)), (.row 13 (((An (Am kind) (l.take i)).1).all.map Bc).length (fun ix => (((An (Am kind) (l.take i)).1).all.map Bc).getD ix Bm)), (.smap (.slice none 0 0) (fun kq => .row 1 ((A9 ((An (Am kind) (l.take i)).1).all) kq).length (fun ix => ((A9 ((An (Am kind) (l.take i)).1).all) kq).getD ix Bm)))] 101)), (2, (.row [(.int .i64 ((An (Am kind) (l.take i)).1.kind)), (.own 5), (.own 6)] 116)), (5, (.grow (((An (Am kind) (l.take i)).1).repos.map Bf) 41 4)), (6, (.grow (((An (Am kind) (l.take i)).2).map atX) 142 2))], 7⟩) (by kernel_rfl) ?_
     refine Jk 2 1 (y := ⟨[(1, (Ac 4 Bf l)), (6, (.ptr 1 0)), (8, (.ptr 2 0)), (10, (.int .i64 ((i : Int)))), (32, (.bool (decide ((i : Int) < (l.length : Int)))))], [(1, (.row [(.int .i64 ((An (Am kind) (l.take i)).1.kind)), (.row 4 (((An (Am kind) (l.take i)).1).repos.map Ba).length (fun ix => (((An (Am kind) (l.take i)).1).repos.map Ba).getD ix Bm)), (.row 13 (((An (Am kind) (l.take i)).1).all.map Bc).length (fun ix => (((An (Am kind) (l.take i)).1).all.map Bc).getD ix Bm)), (.smap (.slice none 0 0) (fun kq => .row 1 ((A9 ((An (Am kind) (l.take i)).1).all) kq).length (fun ix => ((A9 ((An (Am kind) (l.take i)).1).all) kq).getD ix Bm)))] 101)), (2, (.row [(.int .i64 ((An (Am kind) (l.take i)).1.kind)), (.row 4 (((An (Am kind) (l.take i)).1).repos.map Bf).length (fun ix => (((An (Am kind) (l.take i)).1).repos.map Bf).getD ix Bm)), (.own 6)] 116)), (6, (.grow (((An (Am kind) (l.take i)).2).map atX) 142 2))], 7⟩) (by kernel_rfl) ?_
     refine Jk 2 2 (y := ⟨[(1, (Ac 4 Bf l)), (6, (.ptr 1 0)), (8, (.ptr 2 0)), (10, (.int .i64 ((i : Int)))), (32, (.bool (decide ((i : Int) < (l.length : Int)))))], [(1, (.row [(.int .i64 ((An (Am kind) (l.take i)).1.kind)), (.row 4 (((An (Am kind) (l.take i)).1).repos.map Ba).length (fun ix => (((An (Am kind) (l.take i)).1).repos.map Ba).getD ix Bm)), (.row 13 (((An (Am kind) (l.take i)).1).all.map Bc).length (fun ix => (((An (Am kind) (l.take i)).1).all.map Bc).getD ix Bm)), (.smap (.slice none 0 0) (fun kq => .row 1 ((A9 ((An (Am kind) (l.take i)).1).all) kq).length (fun ix => ((A9 ((An (Am kind) (l.take i)).1).all) kq).getD ix Bm)))] 101)), (2, (.row [(.int .i64 ((An (Am kind) (l.take i)).1.kind)), (.row 4 (((An (Am kind) (l.take i)).1).repos.map Bf).length (fun ix => (((An (Am kind) (l.take i)).1).repos.map Bf).getD ix Bm)), (.row 2 (((An (Am kind) (l.take i)).2).map atX).length (fun ix => (((An (Am kind) (l.take i)).2).map atX).getD ix Bm))] 116))], 7⟩) (by kernel_rfl) ?_
     refine Fv [] [4, 5] ?_
     refine Ag ?_
     refine RK wR [(.fp (.agg [(.int .i64 ((An (Am kind) (l.take i)).1.kind)), (.row 4 (((An (Am kind) (l.take i)).1).repos.map Ba).length (fun ix => (((An (Am kind) (l.take i)).1).repos.map Ba).getD ix Bm)), (.row 13 (((An (Am kind) (l.take i)).1).all.map Bc).length (fun ix => (((An (Am kind) (l.take i)).1).all.map Bc).getD ix Bm)), (.smap (.slice none 0 0) (fun kq => .row 1 ((A9 ((An (Am kind) (l.take i)).1).all) kq).length (fun ix => ((A9 ((An (Am kind) (l.take i)).1).all) kq).getD ix Bm)))])), (.fp (.agg [(.int .i64 ((An (Am kind) (l.take i)).1.kind)), (.row 4 (((An (Am kind) (l.take i)).1).repos.map Bf).length (fun ix => (((An (Am kind) (l.take i)).1).repos.map Bf).getD ix Bm)), (.row 2 (((An (Am kind) (l.take i)).2).map atX).length (fun ix => (((An (Am kind) (l.take i)).2).map atX).getD ix Bm))]))] ?_
     rw [show i = l.length from by omega, List.take_length]
     simp only [Ak]
     exact (Imp.tups (ImpL.cons (Imp.fp (Imp.aggs (ImpL.cons Imp.refl (ImpL.cons (Imp.list (f := Ba) (List.length_map _)) (ImpL.cons (Imp.list (f := Bc) (List.length_map _)) (ImpL.cons Imp.refl ImpL.nil)))))) (ImpL.cons (Imp.fp (Imp.aggs (ImpL.cons Imp.refl (ImpL.cons (Imp.list (f := Bf) (List.length_map _)) (ImpL.cons (Imp.list (f := atX) (List.length_map _)) ImpL.nil))))) ImpL.nil))).same
end Sv
end Go.Proofs.YtlmloohlmlahfaaGreatDoor
end
section
namespace Go.Proofs.YtlmloohlmlahfaaGreatDoor
open Go Go.RowKit
namespace Sv
attribute [local irreducible] SW SO Bn
set_option maxHeartbeats 400000
set_option maxRecDepth 100000
theorem Z8 : Au Tryz.prog 42 := Ay Tryz.func42 (by kernel_rfl) rfl
theorem Z7 : Au Tryz.prog 43 := Ay Tryz.func43 (by kernel_rfl) rfl
theorem Kd : Au Tryz.prog 32 := Ay Tryz.func32 (by kernel_rfl) rfl
theorem Q3j (st : PoolT) :
  FnV Tryz.prog 42 [(.fp (Bo st))] (.int .i64 st.kind) := by
 refine A4 [.tmp 2] Tryz.func42 rfl Tryz.ntmps42 rfl rfl (fun B F hF => ?_)
 refine Aa [] [0] ?_
 refine Ad ?_
 refine Aa [] [0, 4] ?_
 refine Ei (by kernel_rfl) ?_
 refine Ai ?_
 refine Aa [] [2] ?_
 refine Ag ?_
 refine RK wR [(.int .i64 st.kind)] ?_
 exact Same.of_eq (by first | rfl | (simp only [Ak]; simp_all))
theorem Q3i (st : PoolT) :
  FnV Tryz.prog 43 [(.fp (Bo st))] (.int .i64 ((st.all.length : Int))) := by
 refine A4 [.tmp 2] Tryz.func43 rfl Tryz.ntmps43 rfl rfl (fun B F hF => ?_)
 refine Aa [] [0] ?_
 refine Ad ?_
 refine Aa [] [0, 4] ?_
 refine Ei (by kernel_rfl) ?_
 refine Ai ?_
 refine Aa [] [2] ?_
 refine Ag ?_
 refine RK wR [(.int .i64 ((st.all.length : Int)))] ?_
 exact Same.of_eq (by first | rfl | (simp only [Ak]; simp_all))
theorem Kn (st : PoolT) (i : Nat) (hi : i < st.all.length) (hs : (nth st.all i).1.size ≤ 4194304) :
  FnV Tryz.prog 32 [(.fp (Bo st)), (.int .i64 ((i : Int)))] (.tup [As (nth st.all i).1, .int .i64 (nth st.all i).2, .int .i64 0]) := by
 refine A4 [.cell 4 38, .tmp 5, .tmp 6] Tryz.func32 rfl Tryz.ntmps32 rfl rfl (fun B F hF => ?_)
 refine Aa [] [0, 1, 4] ?_
 refine Ad ?_
 refine A1 ?_
 refine Aa [] [0, 1, 4, 7] ?_
 refine Ei (by kernel_rfl) ?_
 obtain ⟨b1, hb1⟩ : ∃ b, b = (decide ((i : Int) < 0)) := ⟨_, rfl⟩
 obtain ⟨b2, hb2⟩ : ∃ b, b = (b1 || (decide ((st.all.length : Int) ≤ (i : Int)))) := ⟨_, rfl⟩
 refine Ah (CS := [(5, ((!b1) = true → (!b1) = true)), (6, ((!b1) = true → (!b1) = true)), (7, ((!b1) = true → (!b1) = true)), (8, ((!b1) = true → (!b1) = true)), (9, ((!b1) = true → (!b1) = true ∧ (!b1) = true)), (10, (b1 = false → (!b1) = true))]) [15, 16, 17, 18, 19, 20, 21] [0, 1, 4, 11] [] hk0 (vk 3 14 (a := .bool (decide ((i : Int) < 0))) (b := .bool b1) (Imp.of_eq (by rw [hb1])) <| vk 11 22 (a := .bool (b1 || (decide ((st.all.length : Int) ≤ (i : Int))))) (b := .bool b2) (Imp.of_eq (by rw [hb2])) <| v0) (by refine cc _ ?_ <| cc _ ?_ <| cc _ ?_ <| cc _ ?_ <| cc _ ?_ <| cc _ ?_ c0 <;> simp) ?_
 refine Bd (q := b2) (by kernel_rfl) (fun c1 => ?_) (fun c1 => ?_)
 ·subst hb2 hb1
  try simp only [Ao] at c1
  exfalso; simp at c1; omega
 ·subst hb2 hb1
  try simp only [Ao] at c1
  refine Ai ?_
  refine Cq (CS := [(5, (0 ≤ (i : Int) ∧ i < st.all.length)), (14, (0 ≤ (i : Int) ∧ i < st.all.length))]) [] [4, 5, 6] [] (hk 8 Z5 (Q09 (nth st.all i).1 (by have := (nth st.all i).1.sizes; omega) (by have := (nth st.all i).1.sizes; have := Kb (nth st.all i).1.files; omega)) <| hk0) v0 (by refine cc _ ?_ <| cc _ ?_ c0 <;> omega) ?_
  refine Ag ?_
  refine RK wR [(As ((nth st.all i).1)), (.int .i64 ((nth st.all i).2)), (.int .i64 0)] ?_
  exact Same.of_eq (by first | rfl | (simp only [Ak]; simp_all))
end Sv
end Go.Proofs.YtlmloohlmlahfaaGreatDoor
end
section
namespace Go.Proofs.YtlmloohlmlahfaaGreatDoor
open Go Go.RowKit
namespace Sv
attribute [local irreducible] SW SO Bn
set_option maxHeartbeats 1000000
set_option maxRecDepth 100000
theorem Q0x : Au Tryz.prog 10 := Ay Tryz.func10 (by kernel_rfl) rfl
theorem S5 : Au Tryz.prog 44 := Ay Tryz.func44 (by kernel_rfl) rfl
structure OfferT where
 id : Int
 own : Bool
 op : Int
 evr : List UInt8
 deriving Inhabited
noncomputable def Ib (o : OfferT) : AV := .agg [.int .i64 o.id, .bool o.own, .int .i64 o.op, .str o.evr]
def Cb (ps : List (List UInt8 × OfferT)) (s : List UInt8) : List OfferT := (ps.filter fun q => decide (q.1 = s)).map fun q => q.2
noncomputable def A5 (ps : List (List UInt8 × OfferT)) (s : List UInt8) : List AV := (Cb ps s).map Ib
theorem Xf (ps : List (List UInt8 × OfferT)) (s : List UInt8) (o : OfferT) : Du (A5 ps) s (A5 ps s ++ [Ib o]) = A5 (ps ++ [(s, o)]) := by
 funext t
 unfold Du A5 Cb
 rw [List.filter_append, List.map_append, List.map_append]
 by_cases h : t = s
 ·subst h; rw [if_pos rfl]; simp
 ·rw [if_neg h]
  have : ¬ s = t := fun q => h q.symm
  simp [this]
theorem Oy (ps : List (List UInt8 × OfferT)) (s : List UInt8) : (A5 ps s).length ≤ ps.length := by
 unfold A5 Cb
 rw [List.length_map, List.length_map]; exact List.length_filter_le _ _
def E8 (i : Nat) (p : PkgT) (j : Nat) : List (List UInt8 × OfferT) := (p.name, ⟨i, true, 2, p.evr⟩) :: (p.provides.take j).map fun d => (d.name, ⟨i, false, d.op, d.evr⟩)
def El (i : Nat) (p : PkgT) (j : Nat) : List (List UInt8 × OfferT) := E8 i p p.provides.length ++ (p.files.take j).map fun f => (f, ⟨i, false, 0, []⟩)
def K4 (i : Nat) (p : PkgT) : List (List UInt8 × OfferT) := El i p p.files.length
def Bl (l : List (PkgT × Int)) (n : Nat) : List (List UInt8 × OfferT) := (List.range n).flatMap fun i => K4 i (nth l i).1
theorem Q5y {i : Nat} {p : PkgT} {j : Nat} (h : j < p.provides.length) : E8 i p (j + 1) = E8 i p j ++ [((nth p.provides j).name, ⟨i, false, (nth p.provides j).op, (nth p.provides j).evr⟩)] := by
 unfold E8
 rw [List.take_add_one, List.getElem?_eq_getElem h, List.map_append]
 simp [nth, h]
theorem Q5x {i : Nat} {p : PkgT} {j : Nat} (h : j < p.files.length) : El i p (j + 1) = El i p j ++ [(nth p.files j, ⟨i, false, 0, []⟩)] := by
 unfold El
 rw [List.take_add_one, List.getElem?_eq_getElem h, List.map_append, List.append_assoc]
 simp [nth, h]
theorem V3 {l : List (PkgT × Int)} {n : Nat} : Bl l (n + 1) = Bl l n ++ K4 n (nth l n).1 := by
 unfold Bl
 rw [List.range_succ, List.flatMap_append]; simp
theorem Ol {i : Nat} {p : PkgT} {j : Nat} : (E8 i p j).length ≤ 1 + p.provides.length := by
 unfold E8; simp only [List.length_cons, List.length_map, List.length_take]; omega
theorem Ok {i : Nat} {p : PkgT} {j : Nat} : (El i p j).length ≤ 1 + p.provides.length + p.files.length := by
 have := Ol (i := i) (p := p) (j := p.provides.length)
 unfold El; simp only [List.length_append, List.length_map, List.length_take]; omega
theorem V4 {l : List (PkgT × Int)} (hs : ∀ i, i < l.length → (nth l i).1.size ≤ 4194304) : ∀ n, n ≤ l.length → (Bl l n).length ≤ n * 8388609 := by
 intro n
 induction n with
 | zero => intro _; exact Nat.le_refl _
 | succ n ih =>
  intro h
  have h1 := ih (by omega)
  have h2 := Ok (i := n) (p := (nth l n).1) (j := (nth l n).1.files.length)
  have h3 := (nth l n).1.sizes
  have h4 := hs n (by omega)
  have h5 := Dr (nth l n).1.provides
  have h6 := Kb (nth l n).1.files
  have h7 : argsSize (nth l n).1.provides ≤ (nth l n).1.depSize := by unfold PkgT.depSize; omega
  rw [V3, List.length_append]
  unfold K4
  omega
noncomputable def A3 (st : PoolT) : AV := .agg [.int .i64 st.kind, .int .i64 (st.all.length : Int), .smap (.slice none 0 0) (fun s => .row 4 (A5 (Bl st.all st.all.length) s).length (fun i => (A5 (Bl st.all st.all.length) s).getD i Bm))]
theorem Rj (kind count : Int) (ps : List (List UInt8 × OfferT)) (s : List UInt8) (o : OfferT) (hl : (A5 ps s).length ≤ 2147483648) :
  Fy Tryz.prog 44 [(.str s), (.agg [(.int .i64 o.id), (.bool o.own), (.int .i64 o.op), (.str o.evr)]), (.ptr 0 0)] [(0, (.row [(.ptr 1 0)] 32)), (1, (.row [(.int .i64 kind), (.int .i64 count), (.map 2)] 91)), (2, (.mm (A5 ps) none 93 4))] 3 (.tup []) [(0, (.row [(.ptr 1 0)] 32)), (1, (.row [(.int .i64 kind), (.int .i64 count), (.map 2)] 91)), (2, (.mm (A5 (ps ++ [(s, o)])) none 93 4))] := by
 refine Kp [] Tryz.func44 rfl Tryz.ntmps44 rfl rfl (by kernel_rfl) (by kernel_rfl) (by kernel_rfl) (fun B F hF => ?_)
 refine Aa [] [0, 2, 4] ?_
 refine Qe 4 (y := ⟨[(0, (.str s)), (2, (.ptr 0 0)), (4, (.fp (.agg [(.int .i64 o.id), (.bool o.own), (.int .i64 o.op), (.str o.evr)])))], [(0, (.row [(.ptr 1 0)] 32)), (1, (.row [(.int .i64 kind), (.int .i64 count), (.map 2)] 91)), (2, (.mm (A5 ps) none 93 4))], 4⟩) (by kernel_rfl) ?_
 refine It (by kernel_rfl) (fun F1 hF1 => ?_)
 refine Ci false 1 (lsD 15 [0, 1, 2, 3, 4, 5, 6, 7, 8, 9, 10, 11, 12, 13]) ⟨[(8, (.map 2)), (9, (.str s)), (18, (.own 4))], [(0, (.row [(.ptr 1 0)] 32)), (1, (.row [(.int .i64 kind), (.int .i64 count), (.map 2)] 91)), (2, (.mm (A5 ps) (some s) 93 4)), (4, (.grow (((A5 ps) s) ++ ([(.agg [(.int .i64 o.id), (.bool o.own), (.int .i64 o.op), (.str o.evr)])] : List AV)) 93 4)), (5, (.row [(.int .i64 o.id), (.bool o.own), (.int .i64 o.op), (.str o.evr)] 93))], 6⟩ ?_ (fun m1_1 => ?_)
 ·refine Fx (fuel := 0) 14 (by kernel_rfl) ?_
  refine Db (fuel := 0) 14 rfl ?_
  refine Qh (b := 2) (c := 4) (s := s) (s1 := s) (y := ⟨[(8, (.map 2)), (9, (.str s)), (18, (.own 4))], [(0, (.row [(.ptr 1 0)] 32)), (1, (.row [(.int .i64 kind), (.int .i64 count), (.map 2)] 91)), (2, (.mm (Du (A5 ps) s (((A5 ps) s) ++ ([(.agg [(.int .i64 o.id), (.bool o.own), (.int .i64 o.op), (.str o.evr)])] : List AV))) none 93 4)), (5, (.row [(.int .i64 o.id), (.bool o.own), (.int .i64 o.op), (.str o.evr)] 93))], 6⟩) (by kernel_rfl) (by kernel_rfl) (by kernel_rfl) (by kernel_rfl) (by kernel_rfl) rfl Tryz.underlying89 Tryz.underlying9 (by kernel_rfl) rfl ?_
  refine Bx ⟨rfl, ?_⟩
  refine Az [] ?_
  refine Gi (by kernel_rfl) ?_
  refine D7 (.inr rfl) (al := []) (by kernel_rfl) ?_ ((by kernel_rfl : Dc 3 _ = some [(0, (.row [(.ptr 1 0)] 32)), (1, (.row [(.int .i64 kind), (.int .i64 count), (.map 2)] 91)), (2, (.mm (Du (A5 ps) s (((A5 ps) s) ++ ([(.agg [(.int .i64 o.id), (.bool o.own), (.int .i64 o.op), (.str o.evr)])] : List AV))) none 93 4))]).trans ?_)
  ·rfl
  ·rw [show (Du (A5 ps) s (((A5 ps) s) ++ ([(.agg [(.int .i64 o.id), (.bool o.own), (.int .i64 o.op), (.str o.evr)])] : List AV))) = A5 (ps ++ [(s, o)]) from Xf ps s o] <;> kernel_rfl
 refine Ci false 1 (lsD 15 [0, 1, 2, 3, 4, 5, 6, 7, 8, 9, 10, 11, 12, 13]) ⟨[(8, (.map 2)), (9, (.str s)), (18, (.own 5))], [(0, (.row [(.ptr 1 0)] 32)), (1, (.row [(.int .i64 kind), (.int .i64 count), (.map 2)] 91)), (2, (.mm (A5 ps) (some s) 93 4)), (4, (.row [(.int .i64 o.id), (.bool o.own), (.int .i64 o.op), (.str o.evr)] 93)), (5, (.grow (((A5 ps) s) ++ ([(.agg [(.int .i64 o.id), (.bool o.own), (.int .i64 o.op), (.str o.evr)])] : List AV)) 93 4))], 6⟩ ?_ (fun m1_2 => ?_)
 ·refine Fx (fuel := 0) 14 (by kernel_rfl) ?_
  refine Db (fuel := 0) 14 rfl ?_
  refine Qh (b := 2) (c := 5) (s := s) (s1 := s) (y := ⟨[(8, (.map 2)), (9, (.str s)), (18, (.own 5))], [(0, (.row [(.ptr 1 0)] 32)), (1, (.row [(.int .i64 kind), (.int .i64 count), (.map 2)] 91)), (2, (.mm (Du (A5 ps) s (((A5 ps) s) ++ ([(.agg [(.int .i64 o.id), (.bool o.own), (.int .i64 o.op), (.str o.evr)])] : List AV))) none 93 4)), (4, (.row [(.int .i64 o.id), (.bool o.own), (.int .i64 o.op), (.str o.evr)] 93))], 6⟩) (by kernel_rfl) (by kernel_rfl) (by kernel_rfl) (by kernel_rfl) (by kernel_rfl) rfl Tryz.underlying89 Tryz.underlying9 (by kernel_rfl) rfl ?_
  refine Bx ⟨rfl, ?_⟩
  refine Az [] ?_
  refine Gi (by kernel_rfl) ?_
  refine D7 (.inr rfl) (al := []) (by kernel_rfl) ?_ ((by kernel_rfl : Dc 3 _ = some [(0, (.row [(.ptr 1 0)] 32)), (1, (.row [(.int .i64 kind), (.int .i64 count), (.map 2)] 91)), (2, (.mm (Du (A5 ps) s (((A5 ps) s) ++ ([(.agg [(.int .i64 o.id), (.bool o.own), (.int .i64 o.op), (.str o.evr)])] : List AV))) none 93 4))]).trans ?_)
  ·rfl
  ·rw [show (Du (A5 ps) s (((A5 ps) s) ++ ([(.agg [(.int .i64 o.id), (.bool o.own), (.int .i64 o.op), (.str o.evr)])] : List AV))) = A5 (ps ++ [(s, o)]) from Xf ps s o] <;> kernel_rfl
 refine Ci false 2 (lsD 15 [0, 1, 2, 3, 4, 5, 6, 7, 8, 9, 10, 11, 12]) ⟨[(8, (.map 2)), (9, (.str s)), (15, (.own 4)), (17, (.sl 5 0 1 1 false))], [(0, (.row [(.ptr 1 0)] 32)), (1, (.row [(.int .i64 kind), (.int .i64 count), (.map 2)] 91)), (2, (.mm (A5 ps) (some s) 93 4)), (4, (.grow ((A5 ps) s) 93 4)), (5, (.row [(.int .i64 o.id), (.bool o.own), (.int .i64 o.op), (.str o.evr)] 93))], 6⟩ ?_ (fun m1_3 => ?_)
 ·refine Cz (fuel := 1) 13 [] (hold (p := ((((A5 ps) s).length + 1) * 40 ≤ 140737488355328)) (by omega)) ?_
  refine Az [8, 9, 18] ?_
  exact Be m1_1
 refine Ci false 2 (lsD 15 [0, 1, 2, 3, 4, 5, 6, 7, 8, 9, 10, 11, 12]) ⟨[(8, (.map 2)), (9, (.str s)), (15, (.own 5)), (17, (.sl 4 0 1 1 false))], [(0, (.row [(.ptr 1 0)] 32)), (1, (.row [(.int .i64 kind), (.int .i64 count), (.map 2)] 91)), (2, (.mm (A5 ps) (some s) 93 4)), (4, (.row [(.int .i64 o.id), (.bool o.own), (.int .i64 o.op), (.str o.evr)] 93)), (5, (.grow ((A5 ps) s) 93 4))], 6⟩ ?_ (fun m1_4 => ?_)
 ·refine Cz (fuel := 1) 13 [] (hold (p := ((((A5 ps) s).length + 1) * 40 ≤ 140737488355328)) (by omega)) ?_
  refine Az [8, 9, 18] ?_
  exact Be m1_2
 refine Ci false 2 (lsD 15 [0, 1, 2, 4, 5, 6, 7, 8, 9, 10, 11, 12, 13]) ⟨[(7, (.ptr 1 2)), (9, (.str s)), (18, (.own 4))], [(0, (.row [(.ptr 1 0)] 32)), (1, (.row [(.int .i64 kind), (.int .i64 count), (.map 2)] 91)), (2, (.mm (A5 ps) (some s) 93 4)), (4, (.grow (((A5 ps) s) ++ ([(.agg [(.int .i64 o.id), (.bool o.own), (.int .i64 o.op), (.str o.evr)])] : List AV)) 93 4)), (5, (.row [(.int .i64 o.id), (.bool o.own), (.int .i64 o.op), (.str o.evr)] 93))], 6⟩ ?_ (fun m1_5 => ?_)
 ·refine Cz (fuel := 1) 3 [] A0 ?_
  refine Az [8, 9, 18] ?_
  exact Be m1_1
 refine Ci false 2 (lsD 15 [0, 1, 2, 4, 5, 6, 7, 8, 9, 10, 11, 12, 13]) ⟨[(7, (.ptr 1 2)), (9, (.str s)), (18, (.own 5))], [(0, (.row [(.ptr 1 0)] 32)), (1, (.row [(.int .i64 kind), (.int .i64 count), (.map 2)] 91)), (2, (.mm (A5 ps) (some s) 93 4)), (4, (.row [(.int .i64 o.id), (.bool o.own), (.int .i64 o.op), (.str o.evr)] 93)), (5, (.grow (((A5 ps) s) ++ ([(.agg [(.int .i64 o.id), (.bool o.own), (.int .i64 o.op), (.str o.evr)])] : List AV)) 93 4))], 6⟩ ?_ (fun m1_6 => ?_)
 ·refine Cz (fuel := 1) 3 [] A0 ?_
  refine Az [8, 9, 18] ?_
  exact Be m1_2
 refine Ci false 3 (lsD 15 [0, 1, 2, 3, 4, 5, 6, 7, 8, 9, 10, 11]) ⟨[(8, (.map 2)), (9, (.str s)), (15, (.own 4)), (16, (.agg [(.int .i64 o.id), (.bool o.own), (.int .i64 o.op), (.str o.evr)]))], [(0, (.row [(.ptr 1 0)] 32)), (1, (.row [(.int .i64 kind), (.int .i64 count), (.map 2)] 91)), (2, (.mm (A5 ps) (some s) 93 4)), (4, (.grow ((A5 ps) s) 93 4))], 5⟩ ?_ (fun m1_7 => ?_)
 ·refine Cz (fuel := 2) 12 [] A0 ?_
  refine Az [8, 9, 15, 17] ?_
  exact Be m1_3
 refine Ci true 3 (lsD 15 [0, 1, 2, 3, 4, 5, 6, 7, 8, 9, 11, 12]) ⟨[(8, (.map 2)), (9, (.str s)), (13, (.map 2)), (14, (.str s)), (17, (.sl 4 0 1 1 false))], [(0, (.row [(.ptr 1 0)] 32)), (1, (.row [(.int .i64 kind), (.int .i64 count), (.map 2)] 91)), (2, (.mm (A5 ps) none 93 4)), (4, (.row [(.int .i64 o.id), (.bool o.own), (.int .i64 o.op), (.str o.evr)] 93))], 5⟩ ?_ (fun m1_8 => ?_)
 ·refine Fx (fuel := 2) 10 (by kernel_rfl) ?_
  refine Db (fuel := 2) 10 rfl ?_
  refine E1 (b := 2) (s := s) (y := ⟨[(8, (.map 2)), (9, (.str s)), (13, (.map 2)), (14, (.str s)), (17, (.sl 4 0 1 1 false)), (15, (.own 5))], [(0, (.row [(.ptr 1 0)] 32)), (1, (.row [(.int .i64 kind), (.int .i64 count), (.map 2)] 91)), (2, (.mm (A5 ps) (some s) 93 4)), (4, (.row [(.int .i64 o.id), (.bool o.own), (.int .i64 o.op), (.str o.evr)] 93)), (5, (.grow ((A5 ps) s) 93 4))], 6⟩) (by kernel_rfl) (by kernel_rfl) (by kernel_rfl) Tryz.underlying89 Tryz.underlying9 (fun _ => by kernel_rfl) (by kernel_rfl) ?_
  refine Bx ⟨rfl, ?_⟩
  refine Az [8, 9, 15, 17] ?_
  exact Be m1_4
 refine Ci false 3 (lsD 15 [0, 1, 2, 4, 5, 6, 7, 8, 9, 10, 11, 12]) ⟨[(7, (.ptr 1 2)), (9, (.str s)), (15, (.own 4)), (17, (.sl 5 0 1 1 false))], [(0, (.row [(.ptr 1 0)] 32)), (1, (.row [(.int .i64 kind), (.int .i64 count), (.map 2)] 91)), (2, (.mm (A5 ps) (some s) 93 4)), (4, (.grow ((A5 ps) s) 93 4)), (5, (.row [(.int .i64 o.id), (.bool o.own), (.int .i64 o.op), (.str o.evr)] 93))], 6⟩ ?_ (fun m1_9 => ?_)
 ·refine Ck 3 13 (by kernel_rfl) ?_ ?_
  ·refine Bb (fuel := 2) 3 [] A0 ?_
   refine Az [8, 9, 15, 17] ?_
   exact Be m1_3
  ·refine Bb (fuel := 2) 13 [] (hold (p := ((((A5 ps) s).length + 1) * 40 ≤ 140737488355328)) (by omega)) ?_
   refine Az [7, 9, 18] ?_
   exact Be m1_5
 refine Ci false 3 (lsD 15 [0, 1, 2, 4, 5, 6, 7, 8, 9, 10, 11, 12]) ⟨[(7, (.ptr 1 2)), (9, (.str s)), (15, (.own 5)), (17, (.sl 4 0 1 1 false))], [(0, (.row [(.ptr 1 0)] 32)), (1, (.row [(.int .i64 kind), (.int .i64 count), (.map 2)] 91)), (2, (.mm (A5 ps) (some s) 93 4)), (4, (.row [(.int .i64 o.id), (.bool o.own), (.int .i64 o.op), (.str o.evr)] 93)), (5, (.grow ((A5 ps) s) 93 4))], 6⟩ ?_ (fun m1_10 => ?_)
 ·refine Ck 3 13 (by kernel_rfl) ?_ ?_
  ·refine Bb (fuel := 2) 3 [] A0 ?_
   refine Az [8, 9, 15, 17] ?_
   exact Be m1_4
  ·refine Bb (fuel := 2) 13 [] (hold (p := ((((A5 ps) s).length + 1) * 40 ≤ 140737488355328)) (by omega)) ?_
   refine Az [7, 9, 18] ?_
   exact Be m1_6
 refine Ci true 4 (lsD 15 [0, 1, 2, 3, 4, 5, 6, 7, 8, 9, 11]) ⟨[(8, (.map 2)), (9, (.str s)), (13, (.map 2)), (14, (.str s)), (16, (.agg [(.int .i64 o.id), (.bool o.own), (.int .i64 o.op), (.str o.evr)]))], [(0, (.row [(.ptr 1 0)] 32)), (1, (.row [(.int .i64 kind), (.int .i64 count), (.map 2)] 91)), (2, (.mm (A5 ps) none 93 4))], 4⟩ ?_ (fun m1_11 => ?_)
 ·refine Ck 10 12 (by kernel_rfl) ?_ ?_
  ·refine Db (fuel := 3) 10 rfl ?_
   refine E1 (b := 2) (s := s) (y := ⟨[(8, (.map 2)), (9, (.str s)), (13, (.map 2)), (14, (.str s)), (16, (.agg [(.int .i64 o.id), (.bool o.own), (.int .i64 o.op), (.str o.evr)])), (15, (.own 4))], [(0, (.row [(.ptr 1 0)] 32)), (1, (.row [(.int .i64 kind), (.int .i64 count), (.map 2)] 91)), (2, (.mm (A5 ps) (some s) 93 4)), (4, (.grow ((A5 ps) s) 93 4))], 5⟩) (by kernel_rfl) (by kernel_rfl) (by kernel_rfl) Tryz.underlying89 Tryz.underlying9 (fun _ => by kernel_rfl) (by kernel_rfl) ?_
   refine Bx ⟨rfl, ?_⟩
   refine Az [8, 9, 15, 16] ?_
   exact Be m1_7
  ·refine Bb (fuel := 3) 12 [] A0 ?_
   refine Az [8, 9, 13, 14, 17] ?_
   exact Be m1_8
 refine Ci true 4 (lsD 15 [0, 1, 2, 3, 4, 5, 6, 7, 9, 11, 12]) ⟨[(8, (.map 2)), (9, (.str s)), (12, (.ptr 1 2)), (14, (.str s)), (17, (.sl 4 0 1 1 false))], [(0, (.row [(.ptr 1 0)] 32)), (1, (.row [(.int .i64 kind), (.int .i64 count), (.map 2)] 91)), (2, (.mm (A5 ps) none 93 4)), (4, (.row [(.int .i64 o.id), (.bool o.own), (.int .i64 o.op), (.str o.evr)] 93))], 5⟩ ?_ (fun m1_12 => ?_)
 ·refine Cz (fuel := 3) 8 [] A0 ?_
  refine Az [8, 9, 13, 14, 17] ?_
  exact Be m1_8
 refine Ci false 4 (lsD 15 [0, 1, 2, 4, 5, 6, 7, 8, 9, 10, 11]) ⟨[(7, (.ptr 1 2)), (9, (.str s)), (15, (.own 4)), (16, (.agg [(.int .i64 o.id), (.bool o.own), (.int .i64 o.op), (.str o.evr)]))], [(0, (.row [(.ptr 1 0)] 32)), (1, (.row [(.int .i64 kind), (.int .i64 count), (.map 2)] 91)), (2, (.mm (A5 ps) (some s) 93 4)), (4, (.grow ((A5 ps) s) 93 4))], 5⟩ ?_ (fun m1_13 => ?_)
 ·refine Ck 3 12 (by kernel_rfl) ?_ ?_
  ·refine Bb (fuel := 3) 3 [] A0 ?_
   refine Az [8, 9, 15, 16] ?_
   exact Be m1_7
  ·refine Bb (fuel := 3) 12 [] A0 ?_
   refine Az [7, 9, 15, 17] ?_
   exact Be m1_9
 refine Ci true 4 (lsD 15 [0, 1, 2, 4, 5, 6, 7, 8, 9, 11, 12]) ⟨[(7, (.ptr 1 2)), (9, (.str s)), (13, (.map 2)), (14, (.str s)), (17, (.sl 4 0 1 1 false))], [(0, (.row [(.ptr 1 0)] 32)), (1, (.row [(.int .i64 kind), (.int .i64 count), (.map 2)] 91)), (2, (.mm (A5 ps) none 93 4)), (4, (.row [(.int .i64 o.id), (.bool o.own), (.int .i64 o.op), (.str o.evr)] 93))], 5⟩ ?_ (fun m1_14 => ?_)
 ·refine Ck 3 10 (by kernel_rfl) ?_ ?_
  ·refine Bb (fuel := 3) 3 [] A0 ?_
   refine Az [8, 9, 13, 14, 17] ?_
   exact Be m1_8
  ·refine Db (fuel := 3) 10 rfl ?_
   refine E1 (b := 2) (s := s) (y := ⟨[(7, (.ptr 1 2)), (9, (.str s)), (13, (.map 2)), (14, (.str s)), (17, (.sl 4 0 1 1 false)), (15, (.own 5))], [(0, (.row [(.ptr 1 0)] 32)), (1, (.row [(.int .i64 kind), (.int .i64 count), (.map 2)] 91)), (2, (.mm (A5 ps) (some s) 93 4)), (4, (.row [(.int .i64 o.id), (.bool o.own), (.int .i64 o.op), (.str o.evr)] 93)), (5, (.grow ((A5 ps) s) 93 4))], 6⟩) (by kernel_rfl) (by kernel_rfl) (by kernel_rfl) Tryz.underlying89 Tryz.underlying9 (fun _ => by kernel_rfl) (by kernel_rfl) ?_
   refine Bx ⟨rfl, ?_⟩
   refine Az [7, 9, 15, 17] ?_
   exact Be m1_10
 refine Ci true 5 (lsD 15 [0, 1, 2, 3, 4, 5, 6, 7, 9, 11]) ⟨[(8, (.map 2)), (9, (.str s)), (12, (.ptr 1 2)), (14, (.str s)), (16, (.agg [(.int .i64 o.id), (.bool o.own), (.int .i64 o.op), (.str o.evr)]))], [(0, (.row [(.ptr 1 0)] 32)), (1, (.row [(.int .i64 kind), (.int .i64 count), (.map 2)] 91)), (2, (.mm (A5 ps) none 93 4))], 4⟩ ?_ (fun m1_15 => ?_)
 ·refine Ck 8 12 (by kernel_rfl) ?_ ?_
  ·refine Bb (fuel := 4) 8 [] A0 ?_
   refine Az [8, 9, 13, 14, 16] ?_
   exact Be m1_11
  ·refine Bb (fuel := 4) 12 [] A0 ?_
   refine Az [8, 9, 12, 14, 17] ?_
   exact Be m1_12
 refine Ci true 5 (lsD 15 [0, 1, 2, 4, 5, 6, 7, 8, 9, 11]) ⟨[(7, (.ptr 1 2)), (9, (.str s)), (13, (.map 2)), (14, (.str s)), (16, (.agg [(.int .i64 o.id), (.bool o.own), (.int .i64 o.op), (.str o.evr)]))], [(0, (.row [(.ptr 1 0)] 32)), (1, (.row [(.int .i64 kind), (.int .i64 count), (.map 2)] 91)), (2, (.mm (A5 ps) none 93 4))], 4⟩ ?_ (fun m1_16 => ?_)
 ·refine Fw 3 10 12 (by kernel_rfl) ?_ ?_ ?_
  ·refine Bb (fuel := 4) 3 [] A0 ?_
   refine Az [8, 9, 13, 14, 16] ?_
   exact Be m1_11
  ·refine Db (fuel := 4) 10 rfl ?_
   refine E1 (b := 2) (s := s) (y := ⟨[(7, (.ptr 1 2)), (9, (.str s)), (13, (.map 2)), (14, (.str s)), (16, (.agg [(.int .i64 o.id), (.bool o.own), (.int .i64 o.op), (.str o.evr)])), (15, (.own 4))], [(0, (.row [(.ptr 1 0)] 32)), (1, (.row [(.int .i64 kind), (.int .i64 count), (.map 2)] 91)), (2, (.mm (A5 ps) (some s) 93 4)), (4, (.grow ((A5 ps) s) 93 4))], 5⟩) (by kernel_rfl) (by kernel_rfl) (by kernel_rfl) Tryz.underlying89 Tryz.underlying9 (fun _ => by kernel_rfl) (by kernel_rfl) ?_
   refine Bx ⟨rfl, ?_⟩
   refine Az [7, 9, 15, 16] ?_
   exact Be m1_13
  ·refine Bb (fuel := 4) 12 [] A0 ?_
   refine Az [7, 9, 13, 14, 17] ?_
   exact Be m1_14
 refine Ci true 5 (lsD 15 [0, 1, 2, 4, 5, 6, 7, 9, 11, 12]) ⟨[(7, (.ptr 1 2)), (9, (.str s)), (12, (.ptr 1 2)), (14, (.str s)), (17, (.sl 4 0 1 1 false))], [(0, (.row [(.ptr 1 0)] 32)), (1, (.row [(.int .i64 kind), (.int .i64 count), (.map 2)] 91)), (2, (.mm (A5 ps) none 93 4)), (4, (.row [(.int .i64 o.id), (.bool o.own), (.int .i64 o.op), (.str o.evr)] 93))], 5⟩ ?_ (fun m1_17 => ?_)
 ·refine Ck 3 8 (by kernel_rfl) ?_ ?_
  ·refine Bb (fuel := 4) 3 [] A0 ?_
   refine Az [8, 9, 12, 14, 17] ?_
   exact Be m1_12
  ·refine Bb (fuel := 4) 8 [] A0 ?_
   refine Az [7, 9, 13, 14, 17] ?_
   exact Be m1_14
 refine Ci true 7 (lsD 15 [0, 1, 2, 3, 4, 9, 11, 12]) ⟨[(2, (.ptr 0 0)), (8, (.map 2)), (9, (.str s)), (14, (.str s)), (17, (.sl 4 0 1 1 false))], [(0, (.row [(.ptr 1 0)] 32)), (1, (.row [(.int .i64 kind), (.int .i64 count), (.map 2)] 91)), (2, (.mm (A5 ps) none 93 4)), (4, (.row [(.int .i64 o.id), (.bool o.own), (.int .i64 o.op), (.str o.evr)] 93))], 5⟩ ?_ (fun m1_18 => ?_)
 ·refine Cz (fuel := 6) 5 [] A0 ?_
  refine C0 (fuel := 4) [] [6, 7] [8, 9, 12, 14, 17] A0 ?_
  refine Cz (fuel := 3) 8 [] A0 ?_
  refine Az [8, 9, 13, 14, 17] ?_
  exact Be m1_8
 refine Ci true 7 (lsD 15 [0, 1, 2, 4, 5, 9, 11, 12]) ⟨[(7, (.ptr 1 2)), (9, (.str s)), (10, (.ptr 1 0)), (14, (.str s)), (17, (.sl 4 0 1 1 false))], [(0, (.row [(.ptr 1 0)] 32)), (1, (.row [(.int .i64 kind), (.int .i64 count), (.map 2)] 91)), (2, (.mm (A5 ps) none 93 4)), (4, (.row [(.int .i64 o.id), (.bool o.own), (.int .i64 o.op), (.str o.evr)] 93))], 5⟩ ?_ (fun m1_19 => ?_)
 ·refine C0 (fuel := 5) [] [6, 7] [7, 9, 12, 14, 17] A0 ?_
  refine Ck 3 8 (by kernel_rfl) ?_ ?_
  ·refine Bb (fuel := 4) 3 [] A0 ?_
   refine Az [8, 9, 12, 14, 17] ?_
   exact Be m1_12
  ·refine Bb (fuel := 4) 8 [] A0 ?_
   refine Az [7, 9, 13, 14, 17] ?_
   exact Be m1_14
 refine Ci true 7 (lsD 15 [4, 5, 6, 7, 8, 9, 11, 12]) ⟨[(2, (.ptr 0 0)), (9, (.str s)), (13, (.map 2)), (14, (.str s)), (17, (.sl 4 0 1 1 false))], [(0, (.row [(.ptr 1 0)] 32)), (1, (.row [(.int .i64 kind), (.int .i64 count), (.map 2)] 91)), (2, (.mm (A5 ps) none 93 4)), (4, (.row [(.int .i64 o.id), (.bool o.own), (.int .i64 o.op), (.str o.evr)] 93))], 5⟩ ?_ (fun m1_20 => ?_)
 ·refine Ck 0 10 (by kernel_rfl) ?_ ?_
  ·refine Bb (fuel := 6) 0 [] A0 ?_
   refine Az [5, 9, 13, 14, 17] ?_
   refine C0 (fuel := 4) [] [1, 2] [7, 9, 13, 14, 17] A0 ?_
   refine Ck 3 10 (by kernel_rfl) ?_ ?_
   ·refine Bb (fuel := 3) 3 [] A0 ?_
    refine Az [8, 9, 13, 14, 17] ?_
    exact Be m1_8
   ·refine Db (fuel := 3) 10 rfl ?_
    refine E1 (b := 2) (s := s) (y := ⟨[(7, (.ptr 1 2)), (9, (.str s)), (13, (.map 2)), (14, (.str s)), (17, (.sl 4 0 1 1 false)), (15, (.own 5))], [(0, (.row [(.ptr 1 0)] 32)), (1, (.row [(.int .i64 kind), (.int .i64 count), (.map 2)] 91)), (2, (.mm (A5 ps) (some s) 93 4)), (4, (.row [(.int .i64 o.id), (.bool o.own), (.int .i64 o.op), (.str o.evr)] 93)), (5, (.grow ((A5 ps) s) 93 4))], 6⟩) (by kernel_rfl) (by kernel_rfl) (by kernel_rfl) Tryz.underlying89 Tryz.underlying9 (fun _ => by kernel_rfl) (by kernel_rfl) ?_
    refine Bx ⟨rfl, ?_⟩
    refine Az [7, 9, 15, 17] ?_
    exact Be m1_10
  ·refine Db (fuel := 6) 10 rfl ?_
   refine E1 (b := 2) (s := s) (y := ⟨[(2, (.ptr 0 0)), (9, (.str s)), (13, (.map 2)), (14, (.str s)), (17, (.sl 4 0 1 1 false)), (15, (.own 5))], [(0, (.row [(.ptr 1 0)] 32)), (1, (.row [(.int .i64 kind), (.int .i64 count), (.map 2)] 91)), (2, (.mm (A5 ps) (some s) 93 4)), (4, (.row [(.int .i64 o.id), (.bool o.own), (.int .i64 o.op), (.str o.evr)] 93)), (5, (.grow ((A5 ps) s) 93 4))], 6⟩) (by kernel_rfl) (by kernel_rfl) (by kernel_rfl) Tryz.underlying89 Tryz.underlying9 (fun _ => by kernel_rfl) (by kernel_rfl) ?_
   refine Bx ⟨rfl, ?_⟩
   refine Az [2, 9, 15, 17] ?_
   refine Ck 0 13 (by kernel_rfl) ?_ ?_
   ·refine Bb (fuel := 5) 0 [] A0 ?_
    refine Az [5, 9, 15, 17] ?_
    refine C0 (fuel := 3) [] [1, 2] [7, 9, 15, 17] A0 ?_
    refine Ck 3 13 (by kernel_rfl) ?_ ?_
    ·refine Bb (fuel := 2) 3 [] A0 ?_
     refine Az [8, 9, 15, 17] ?_
     exact Be m1_4
    ·refine Bb (fuel := 2) 13 [] (hold (p := ((((A5 ps) s).length + 1) * 40 ≤ 140737488355328)) (by omega)) ?_
     refine Az [7, 9, 18] ?_
     exact Be m1_6
   ·refine Bb (fuel := 5) 13 [] (hold (p := ((((A5 ps) s).length + 1) * 40 ≤ 140737488355328)) (by omega)) ?_
    refine Az [2, 9, 18] ?_
    refine Cz (fuel := 4) 0 [] A0 ?_
    refine C0 (fuel := 2) [] [1, 2] [7, 9, 18] A0 ?_
    refine Cz (fuel := 1) 3 [] A0 ?_
    refine Az [8, 9, 18] ?_
    exact Be m1_2
 refine Ci true 7 (lsD 15 [0, 4, 5, 6, 7, 9, 11, 12]) ⟨[(5, (.ptr 1 0)), (9, (.str s)), (12, (.ptr 1 2)), (14, (.str s)), (17, (.sl 4 0 1 1 false))], [(0, (.row [(.ptr 1 0)] 32)), (1, (.row [(.int .i64 kind), (.int .i64 count), (.map 2)] 91)), (2, (.mm (A5 ps) none 93 4)), (4, (.row [(.int .i64 o.id), (.bool o.own), (.int .i64 o.op), (.str o.evr)] 93))], 5⟩ ?_ (fun m1_21 => ?_)
 ·refine C0 (fuel := 5) [] [1, 2] [7, 9, 12, 14, 17] A0 ?_
  refine Ck 3 8 (by kernel_rfl) ?_ ?_
  ·refine Bb (fuel := 4) 3 [] A0 ?_
   refine Az [8, 9, 12, 14, 17] ?_
   exact Be m1_12
  ·refine Bb (fuel := 4) 8 [] A0 ?_
   refine Az [7, 9, 13, 14, 17] ?_
   exact Be m1_14
 refine C0 (fuel := 12) [] [4, 9, 11] [2, 9, 14, 16] A0 ?_
 refine Fw 0 5 12 (by kernel_rfl) ?_ ?_ ?_
 ·refine Bb (fuel := 11) 0 [] A0 ?_
  refine Az [2, 5, 9, 14, 16] ?_
  refine C0 (fuel := 9) [] [1, 2] [2, 7, 9, 14, 16] A0 ?_
  refine Fw 3 5 12 (by kernel_rfl) ?_ ?_ ?_
  ·refine Bb (fuel := 8) 3 [] A0 ?_
   refine Az [2, 8, 9, 14, 16] ?_
   refine Ck 5 12 (by kernel_rfl) ?_ ?_
   ·refine Bb (fuel := 7) 5 [] A0 ?_
    refine Az [8, 9, 10, 14, 16] ?_
    refine C0 (fuel := 5) [] [6, 7] [8, 9, 12, 14, 16] A0 ?_
    refine Ck 8 12 (by kernel_rfl) ?_ ?_
    ·refine Bb (fuel := 4) 8 [] A0 ?_
     refine Az [8, 9, 13, 14, 16] ?_
     exact Be m1_11
    ·refine Bb (fuel := 4) 12 [] A0 ?_
     refine Az [8, 9, 12, 14, 17] ?_
     exact Be m1_12
   ·refine Bb (fuel := 7) 12 [] A0 ?_
    refine Az [2, 8, 9, 14, 17] ?_
    exact Be m1_18
  ·refine Bb (fuel := 8) 5 [] A0 ?_
   refine Az [7, 9, 10, 14, 16] ?_
   refine C0 (fuel := 6) [] [6, 7] [7, 9, 12, 14, 16] A0 ?_
   refine Fw 3 8 12 (by kernel_rfl) ?_ ?_ ?_
   ·refine Bb (fuel := 5) 3 [] A0 ?_
    refine Az [8, 9, 12, 14, 16] ?_
    exact Be m1_15
   ·refine Bb (fuel := 5) 8 [] A0 ?_
    refine Az [7, 9, 13, 14, 16] ?_
    exact Be m1_16
   ·refine Bb (fuel := 5) 12 [] A0 ?_
    refine Az [7, 9, 12, 14, 17] ?_
    exact Be m1_17
  ·refine Bb (fuel := 8) 12 [] A0 ?_
   refine Az [2, 7, 9, 14, 17] ?_
   refine Ck 3 5 (by kernel_rfl) ?_ ?_
   ·refine Bb (fuel := 7) 3 [] A0 ?_
    refine Az [2, 8, 9, 14, 17] ?_
    exact Be m1_18
   ·refine Bb (fuel := 7) 5 [] A0 ?_
    refine Az [7, 9, 10, 14, 17] ?_
    exact Be m1_19
 ·refine Bb (fuel := 11) 5 [] A0 ?_
  refine Az [2, 9, 10, 14, 16] ?_
  refine C0 (fuel := 9) [] [6, 7] [2, 9, 12, 14, 16] A0 ?_
  refine Fw 0 8 12 (by kernel_rfl) ?_ ?_ ?_
  ·refine Bb (fuel := 8) 0 [] A0 ?_
   refine Az [5, 9, 12, 14, 16] ?_
   refine C0 (fuel := 6) [] [1, 2] [7, 9, 12, 14, 16] A0 ?_
   refine Fw 3 8 12 (by kernel_rfl) ?_ ?_ ?_
   ·refine Bb (fuel := 5) 3 [] A0 ?_
    refine Az [8, 9, 12, 14, 16] ?_
    exact Be m1_15
   ·refine Bb (fuel := 5) 8 [] A0 ?_
    refine Az [7, 9, 13, 14, 16] ?_
    exact Be m1_16
   ·refine Bb (fuel := 5) 12 [] A0 ?_
    refine Az [7, 9, 12, 14, 17] ?_
    exact Be m1_17
  ·refine Bb (fuel := 8) 8 [] A0 ?_
   refine Az [2, 9, 13, 14, 16] ?_
   refine Fw 0 10 12 (by kernel_rfl) ?_ ?_ ?_
   ·refine Bb (fuel := 7) 0 [] A0 ?_
    refine Az [5, 9, 13, 14, 16] ?_
    refine C0 (fuel := 5) [] [1, 2] [7, 9, 13, 14, 16] A0 ?_
    refine Fw 3 10 12 (by kernel_rfl) ?_ ?_ ?_
    ·refine Bb (fuel := 4) 3 [] A0 ?_
     refine Az [8, 9, 13, 14, 16] ?_
     exact Be m1_11
    ·refine Db (fuel := 4) 10 rfl ?_
     refine E1 (b := 2) (s := s) (y := ⟨[(7, (.ptr 1 2)), (9, (.str s)), (13, (.map 2)), (14, (.str s)), (16, (.agg [(.int .i64 o.id), (.bool o.own), (.int .i64 o.op), (.str o.evr)])), (15, (.own 4))], [(0, (.row [(.ptr 1 0)] 32)), (1, (.row [(.int .i64 kind), (.int .i64 count), (.map 2)] 91)), (2, (.mm (A5 ps) (some s) 93 4)), (4, (.grow ((A5 ps) s) 93 4))], 5⟩) (by kernel_rfl) (by kernel_rfl) (by kernel_rfl) Tryz.underlying89 Tryz.underlying9 (fun _ => by kernel_rfl) (by kernel_rfl) ?_
     refine Bx ⟨rfl, ?_⟩
     refine Az [7, 9, 15, 16] ?_
     exact Be m1_13
    ·refine Bb (fuel := 4) 12 [] A0 ?_
     refine Az [7, 9, 13, 14, 17] ?_
     exact Be m1_14
   ·refine Db (fuel := 7) 10 rfl ?_
    refine E1 (b := 2) (s := s) (y := ⟨[(2, (.ptr 0 0)), (9, (.str s)), (13, (.map 2)), (14, (.str s)), (16, (.agg [(.int .i64 o.id), (.bool o.own), (.int .i64 o.op), (.str o.evr)])), (15, (.own 4))], [(0, (.row [(.ptr 1 0)] 32)), (1, (.row [(.int .i64 kind), (.int .i64 count), (.map 2)] 91)), (2, (.mm (A5 ps) (some s) 93 4)), (4, (.grow ((A5 ps) s) 93 4))], 5⟩) (by kernel_rfl) (by kernel_rfl) (by kernel_rfl) Tryz.underlying89 Tryz.underlying9 (fun _ => by kernel_rfl) (by kernel_rfl) ?_
    refine Bx ⟨rfl, ?_⟩
    refine Az [2, 9, 15, 16] ?_
    refine Ck 0 12 (by kernel_rfl) ?_ ?_
    ·refine Bb (fuel := 6) 0 [] A0 ?_
     refine Az [5, 9, 15, 16] ?_
     refine C0 (fuel := 4) [] [1, 2] [7, 9, 15, 16] A0 ?_
     refine Ck 3 12 (by kernel_rfl) ?_ ?_
     ·refine Bb (fuel := 3) 3 [] A0 ?_
      refine Az [8, 9, 15, 16] ?_
      exact Be m1_7
     ·refine Bb (fuel := 3) 12 [] A0 ?_
      refine Az [7, 9, 15, 17] ?_
      exact Be m1_9
    ·refine Bb (fuel := 6) 12 [] A0 ?_
     refine Az [2, 9, 15, 17] ?_
     refine Ck 0 13 (by kernel_rfl) ?_ ?_
     ·refine Bb (fuel := 5) 0 [] A0 ?_
      refine Az [5, 9, 15, 17] ?_
      refine C0 (fuel := 3) [] [1, 2] [7, 9, 15, 17] A0 ?_
      refine Ck 3 13 (by kernel_rfl) ?_ ?_
      ·refine Bb (fuel := 2) 3 [] A0 ?_
       refine Az [8, 9, 15, 17] ?_
       exact Be m1_3
      ·refine Bb (fuel := 2) 13 [] (hold (p := ((((A5 ps) s).length + 1) * 40 ≤ 140737488355328)) (by omega)) ?_
       refine Az [7, 9, 18] ?_
       exact Be m1_5
     ·refine Bb (fuel := 5) 13 [] (hold (p := ((((A5 ps) s).length + 1) * 40 ≤ 140737488355328)) (by omega)) ?_
      refine Az [2, 9, 18] ?_
      refine Cz (fuel := 4) 0 [] A0 ?_
      refine C0 (fuel := 2) [] [1, 2] [7, 9, 18] A0 ?_
      refine Cz (fuel := 1) 3 [] A0 ?_
      refine Az [8, 9, 18] ?_
      exact Be m1_1
   ·refine Bb (fuel := 7) 12 [] A0 ?_
    refine Az [2, 9, 13, 14, 17] ?_
    exact Be m1_20
  ·refine Bb (fuel := 8) 12 [] A0 ?_
   refine Az [2, 9, 12, 14, 17] ?_
   refine Ck 0 8 (by kernel_rfl) ?_ ?_
   ·refine Bb (fuel := 7) 0 [] A0 ?_
    refine Az [5, 9, 12, 14, 17] ?_
    exact Be m1_21
   ·refine Bb (fuel := 7) 8 [] A0 ?_
    refine Az [2, 9, 13, 14, 17] ?_
    exact Be m1_20
 ·refine Bb (fuel := 11) 12 [] A0 ?_
  refine Az [2, 9, 14, 17] ?_
  refine Ck 0 5 (by kernel_rfl) ?_ ?_
  ·refine Bb (fuel := 10) 0 [] A0 ?_
   refine Az [2, 5, 9, 14, 17] ?_
   refine C0 (fuel := 8) [] [1, 2] [2, 7, 9, 14, 17] A0 ?_
   refine Ck 3 5 (by kernel_rfl) ?_ ?_
   ·refine Bb (fuel := 7) 3 [] A0 ?_
    refine Az [2, 8, 9, 14, 17] ?_
    exact Be m1_18
   ·refine Bb (fuel := 7) 5 [] A0 ?_
    refine Az [7, 9, 10, 14, 17] ?_
    exact Be m1_19
  ·refine Bb (fuel := 10) 5 [] A0 ?_
   refine Az [2, 9, 10, 14, 17] ?_
   refine C0 (fuel := 8) [] [6, 7] [2, 9, 12, 14, 17] A0 ?_
   refine Ck 0 8 (by kernel_rfl) ?_ ?_
   ·refine Bb (fuel := 7) 0 [] A0 ?_
    refine Az [5, 9, 12, 14, 17] ?_
    exact Be m1_21
   ·refine Bb (fuel := 7) 8 [] A0 ?_
    refine Az [2, 9, 13, 14, 17] ?_
    exact Be m1_20
theorem Wa (st : PoolT) (hal : st.all.length ≤ 200) (hs : ∀ i, i < st.all.length → (nth st.all i).1.size ≤ 4194304) :
  FnV Tryz.prog 10 [(.fp (Bo st))] (.fp (A3 st)) := by
 refine A4 [.tmp 2] Tryz.func10 rfl Tryz.ntmps10 rfl rfl (fun B F hF => ?_)
 refine Aa [] [0] ?_
 refine Ad ?_
 refine Aa [] [0, 14] ?_
 refine Ei (by kernel_rfl) ?_
 refine Ai ?_
 refine Ah [] [0, 3] [] (hk 1 Z8 (Q3j st) <| hk 3 Z7 (Q3i st) <| hk0) v0 c0 ?_
 refine Ad ?_
 refine Aa [] [0, 3, 25, 26] ?_
 refine A1 ?_
 refine Q21 0 93 4 (y := ⟨[(0, (.fp (Bo st))), (3, (.ptr 2 0)), (25, (.int .i64 ((st.all.length : Int)))), (26, (.int .i64 0))], [(0, (.mm (fun _ => []) none 93 4)), (1, (.row [(.int .i64 st.kind), (.int .i64 ((st.all.length : Int))), (.map 0)] 91)), (2, (.row [(.ptr 1 0)] 32))], 3⟩) (by kernel_rfl) ?_
 refine Bv (fun g y => ∃ (i : Nat), i ≤ st.all.length ∧ y = ⟨[(0, (.fp (Bo st))), (3, (.ptr 2 0)), (25, (.int .i64 ((st.all.length : Int)))), (26, (.int .i64 ((i : Int))))], [(0, (.mm (A5 (Bl st.all i)) none 93 4)), (1, (.row [(.int .i64 st.kind), (.int .i64 ((st.all.length : Int))), (.map 0)] 91)), (2, (.row [(.ptr 1 0)] 32))], 3⟩ ∧ g = st.all.length - i) [0, 3, 25, 26] 3 _ (by omega) ⟨0, (by omega), (by kernel_rfl), rfl⟩ ?_
 rintro g1 y1 ⟨i, f1_1, rfl, rfl⟩
 refine Aa [] [0, 3, 25, 26, 27] ?_
 refine Ad ?_
 refine A6 (p := (i : Int) < (st.all.length : Int)) (by kernel_rfl) (fun c1 => ?_) (fun c1 => ?_)
 ·have hpl := V4 (l := st.all) hs i (by omega)
  have hsz := (nth st.all i).1.sizes
  have hsi := hs i (by omega)
  have hpv : (nth st.all i).1.provides.length ≤ 4194304 := by have := Dr (nth st.all i).1.provides; unfold PkgT.depSize at hsz; omega
  have hfl : (nth st.all i).1.files.length ≤ 4194304 := by have := Kb (nth st.all i).1.files; omega
  refine Ai ?_
  refine Ad ?_
  refine A1 ?_
  refine Aa [] [0, 3, 4, 25, 26] ?_
  refine Ah [] [0, 3, 4, 5, 25, 26] [(9, 5)] (hk 2 Kd (Kn st i (by omega) (hs i (by omega))) <| hk0) v0 c0 ?_
  refine Aa [] [0, 3, 4, 5, 8, 25, 26] ?_
  refine Ad ?_
  refine Ap ?_
  refine Bq 7 0 [] [0, 3, 4, 5, 8, 25, 26, 37, 39, 43] [] hk0 v0 c0 ?_
  refine Hf [2, 1, 0] (f := 44) (cap := [(.ptr 2 0)]) (al := [(.str (((nth st.all i).1).name)), (.agg [(.int .i64 ((i : Int))), (.bool true), (.int .i64 2), (.str (((nth st.all i).1).evr))])]) (al' := [(.str (((nth st.all i).1).name)), (.agg [(.int .i64 ((i : Int))), (.bool true), (.int .i64 2), (.str (((nth st.all i).1).evr))]), (.ptr 0 0)]) (r := (.tup [])) (r' := (.tup [])) (s' := [(0, (.fp (Bo st))), (3, (.ptr 2 0)), (4, (.int .i64 ((i : Int)))), (5, (.fp (As ((nth st.all i).1)))), (8, (.fn 44 [] [(.ptr 2 0)])), (25, (.int .i64 ((st.all.length : Int)))), (26, (.int .i64 ((i : Int)))), (37, (.fn 44 [] [(.ptr 2 0)])), (39, (.str (((nth st.all i).1).name))), (43, (.agg [(.int .i64 ((i : Int))), (.bool true), (.int .i64 2), (.str (((nth st.all i).1).evr))])), (44, (.tup []))]) (H := [(0, (.row [(.ptr 1 0)] 32)), (1, (.row [(.int .i64 st.kind), (.int .i64 ((st.all.length : Int))), (.map 2)] 91)), (2, (.mm (A5 (Bl st.all i)) none 93 4))]) (H' := [(0, (.row [(.ptr 1 0)] 32)), (1, (.row [(.int .i64 st.kind), (.int .i64 ((st.all.length : Int))), (.map 2)] 91)), (2, (.mm (A5 (Bl st.all i ++ [((nth st.all i).1.name, (⟨(i : Int), true, 2, (nth st.all i).1.evr⟩ : OfferT))])) none 93 4))]) (h2 := [(0, (.mm (A5 (Bl st.all i ++ [((nth st.all i).1.name, (⟨(i : Int), true, 2, (nth st.all i).1.evr⟩ : OfferT))])) none 93 4)), (1, (.row [(.int .i64 st.kind), (.int .i64 ((st.all.length : Int))), (.map 0)] 91)), (2, (.row [(.ptr 1 0)] 32))]) (by kernel_rfl) (by kernel_rfl) (by exact S5) (by kernel_rfl) (by kernel_rfl) (by kernel_rfl) (by kernel_rfl) (by kernel_rfl) (Rj st.kind (st.all.length : Int) (Bl st.all i) ((nth st.all i).1.name) ⟨(i : Int), true, 2, (nth st.all i).1.evr⟩ (Nat.le_trans (Oy _ _) (by first | (simp only [List.length_append]; have := Ol (i := i) (p := (nth st.all i).1) (j := 0); have := Ok (i := i) (p := (nth st.all i).1) (j := 0); omega) | omega))) (by kernel_rfl) (by kernel_rfl) (by kernel_rfl) ?_
  refine Bx ?_
  refine Ad ?_
  refine Aa [] [0, 3, 4, 5, 8, 25, 26, 46, 47, 48] ?_
  refine A1 ?_
  refine Bv (fun g y => ∃ (j : Nat), j ≤ (nth st.all i).1.provides.length ∧ y = ⟨[(0, (.fp (Bo st))), (3, (.ptr 2 0)), (4, (.int .i64 ((i : Int)))), (5, (.fp (As ((nth st.all i).1)))), (8, (.fn 44 [] [(.ptr 2 0)])), (25, (.int .i64 ((st.all.length : Int)))), (26, (.int .i64 ((i : Int)))), (46, (Ac 5 Al (((nth st.all i).1).provides))), (47, (.int .i64 (((((nth st.all i).1).provides).length : Int)))), (48, (.int .i64 ((j : Int))))], [(0, (.mm (A5 (Bl st.all i ++ E8 i (nth st.all i).1 j)) none 93 4)), (1, (.row [(.int .i64 st.kind), (.int .i64 ((st.all.length : Int))), (.map 0)] 91)), (2, (.row [(.ptr 1 0)] 32))], 4⟩ ∧ g = (nth st.all i).1.provides.length - j) [0, 3, 4, 5, 8, 25, 26, 46, 47, 48] 4 _ (by omega) ⟨0, (by omega), (by kernel_rfl), rfl⟩ ?_
  rintro g2 y2 ⟨j, f2_1, rfl, rfl⟩
  refine Aa [] [0, 3, 4, 5, 8, 25, 26, 46, 47, 48, 49] ?_
  refine Ad ?_
  refine A6 (p := (j : Int) < ((((nth st.all i).1).provides).length : Int)) (by kernel_rfl) (fun c2 => ?_) (fun c2 => ?_)
  ·refine Ai ?_
   refine Ad ?_
   refine A1 ?_
   refine Ah [] [0, 3, 4, 5, 8, 10, 25, 26, 46, 47, 48] [] hk0 v0 (cc 0 (p := (0 ≤ (j : Int) ∧ j < (((nth st.all i).1).provides).length)) (by omega) <| c0) ?_
   refine Ap ?_
   refine Bq 9 0 [] [0, 3, 4, 5, 8, 25, 26, 46, 47, 48, 52, 54, 60] [(0, 10)] hk0 v0 c0 ?_
   refine Hf [2, 1, 0] (f := 44) (cap := [(.ptr 2 0)]) (al := [(.str ((nth (((nth st.all i).1).provides) j).name)), (.agg [(.int .i64 ((i : Int))), (.bool false), (.int .i64 ((nth (((nth st.all i).1).provides) j).op)), (.str ((nth (((nth st.all i).1).provides) j).evr))])]) (al' := [(.str ((nth (((nth st.all i).1).provides) j).name)), (.agg [(.int .i64 ((i : Int))), (.bool false), (.int .i64 ((nth (((nth st.all i).1).provides) j).op)), (.str ((nth (((nth st.all i).1).provides) j).evr))]), (.ptr 0 0)]) (r := (.tup [])) (r' := (.tup [])) (s' := [(0, (.fp (Bo st))), (3, (.ptr 2 0)), (4, (.int .i64 ((i : Int)))), (5, (.fp (As ((nth st.all i).1)))), (8, (.fn 44 [] [(.ptr 2 0)])), (25, (.int .i64 ((st.all.length : Int)))), (26, (.int .i64 ((i : Int)))), (46, (Ac 5 Al (((nth st.all i).1).provides))), (47, (.int .i64 (((((nth st.all i).1).provides).length : Int)))), (48, (.int .i64 ((j : Int)))), (52, (.fn 44 [] [(.ptr 2 0)])), (54, (.str ((nth (((nth st.all i).1).provides) j).name))), (60, (.agg [(.int .i64 ((i : Int))), (.bool false), (.int .i64 ((nth (((nth st.all i).1).provides) j).op)), (.str ((nth (((nth st.all i).1).provides) j).evr))])), (61, (.tup []))]) (H := [(0, (.row [(.ptr 1 0)] 32)), (1, (.row [(.int .i64 st.kind), (.int .i64 ((st.all.length : Int))), (.map 2)] 91)), (2, (.mm (A5 (Bl st.all i ++ E8 i (nth st.all i).1 j)) none 93 4))]) (H' := [(0, (.row [(.ptr 1 0)] 32)), (1, (.row [(.int .i64 st.kind), (.int .i64 ((st.all.length : Int))), (.map 2)] 91)), (2, (.mm (A5 (Bl st.all i ++ E8 i (nth st.all i).1 j ++ [((nth (nth st.all i).1.provides j).name, (⟨(i : Int), false, (nth (nth st.all i).1.provides j).op, (nth (nth st.all i).1.provides j).evr⟩ : OfferT))])) none 93 4))]) (h2 := [(0, (.mm (A5 (Bl st.all i ++ E8 i (nth st.all i).1 j ++ [((nth (nth st.all i).1.provides j).name, (⟨(i : Int), false, (nth (nth st.all i).1.provides j).op, (nth (nth st.all i).1.provides j).evr⟩ : OfferT))])) none 93 4)), (1, (.row [(.int .i64 st.kind), (.int .i64 ((st.all.length : Int))), (.map 0)] 91)), (2, (.row [(.ptr 1 0)] 32))]) (by kernel_rfl) (by kernel_rfl) (by exact S5) (by kernel_rfl) (by kernel_rfl) (by kernel_rfl) (by kernel_rfl) (by kernel_rfl) (Rj st.kind (st.all.length : Int) (Bl st.all i ++ E8 i (nth st.all i).1 j) ((nth (nth st.all i).1.provides j).name) ⟨(i : Int), false, (nth (nth st.all i).1.provides j).op, (nth (nth st.all i).1.provides j).evr⟩ (Nat.le_trans (Oy _ _) (by first | (simp only [List.length_append]; have := Ol (i := i) (p := (nth st.all i).1) (j := j); have := Ok (i := i) (p := (nth st.all i).1) (j := j); omega) | omega))) (by kernel_rfl) (by kernel_rfl) (by kernel_rfl) ?_
   refine Bx ?_
   refine Ap ?_
   refine Av 0 [] [0, 3, 4, 5, 8, 25, 26, 46, 47, 48] [] hk0 v0 (cc 0 (p := (-9223372036854775808 ≤ (j : Int) + 1 ∧ (j : Int) + 1 ≤ 9223372036854775807)) (by omega) <| c0) ?_
   refine ⟨by kernel_rfl, _, ?_, j + 1, ?_, (Eq.trans (b := (⟨[(0, (.fp (Bo st))), (3, (.ptr 2 0)), (4, (.int .i64 ((i : Int)))), (5, (.fp (As ((nth st.all i).1)))), (8, (.fn 44 [] [(.ptr 2 0)])), (25, (.int .i64 ((st.all.length : Int)))), (26, (.int .i64 ((i : Int)))), (46, (Ac 5 Al (((nth st.all i).1).provides))), (47, (.int .i64 (((((nth st.all i).1).provides).length : Int)))), (48, (.int .i64 ((j : Int) + 1)))], [(0, (.mm (A5 (Bl st.all i ++ E8 i (nth st.all i).1 j ++ [((nth (nth st.all i).1.provides j).name, (⟨(i : Int), false, (nth (nth st.all i).1.provides j).op, (nth (nth st.all i).1.provides j).evr⟩ : OfferT))])) none 93 4)), (1, (.row [(.int .i64 st.kind), (.int .i64 ((st.all.length : Int))), (.map 0)] 91)), (2, (.row [(.ptr 1 0)] 32))], 4⟩ : St)) (by kernel_rfl) (by rw [Q5y (by omega), ← List.append_assoc] <;> kernel_rfl)), rfl⟩
   ·omega
   ·omega
  ·refine Br ?_
   refine Aa [] [0, 3, 4, 8, 25, 26, 64, 65, 66] ?_
   refine A1 ?_
   refine Bv (fun g y => ∃ (j : Nat), j ≤ (nth st.all i).1.files.length ∧ y = ⟨[(0, (.fp (Bo st))), (3, (.ptr 2 0)), (4, (.int .i64 ((i : Int)))), (8, (.fn 44 [] [(.ptr 2 0)])), (25, (.int .i64 ((st.all.length : Int)))), (26, (.int .i64 ((i : Int)))), (64, (C3 (((nth st.all i).1).files))), (65, (.int .i64 (((((nth st.all i).1).files).length : Int)))), (66, (.int .i64 ((j : Int))))], [(0, (.mm (A5 (Bl st.all i ++ El i (nth st.all i).1 j)) none 93 4)), (1, (.row [(.int .i64 st.kind), (.int .i64 ((st.all.length : Int))), (.map 0)] 91)), (2, (.row [(.ptr 1 0)] 32))], 4⟩ ∧ g = (nth st.all i).1.files.length - j) [0, 3, 4, 8, 25, 26, 64, 65, 66] 4 _ (by omega) ⟨0, (by omega), (Eq.trans (b := (⟨[(0, (.fp (Bo st))), (3, (.ptr 2 0)), (4, (.int .i64 ((i : Int)))), (8, (.fn 44 [] [(.ptr 2 0)])), (25, (.int .i64 ((st.all.length : Int)))), (26, (.int .i64 ((i : Int)))), (64, (C3 (((nth st.all i).1).files))), (65, (.int .i64 (((((nth st.all i).1).files).length : Int)))), (66, (.int .i64 0))], [(0, (.mm (A5 (Bl st.all i ++ E8 i (nth st.all i).1 j)) none 93 4)), (1, (.row [(.int .i64 st.kind), (.int .i64 ((st.all.length : Int))), (.map 0)] 91)), (2, (.row [(.ptr 1 0)] 32))], 4⟩ : St)) (by kernel_rfl) (by rw [show El i (nth st.all i).1 0 = E8 i (nth st.all i).1 (nth st.all i).1.provides.length from by simp [El], show (nth st.all i).1.provides.length = j from by omega] <;> kernel_rfl)), rfl⟩ ?_
   rintro g3 y3 ⟨j, f3_1, rfl, rfl⟩
   refine Aa [] [0, 3, 4, 8, 25, 26, 64, 65, 66, 67] ?_
   refine Ad ?_
   refine A6 (p := (j : Int) < ((((nth st.all i).1).files).length : Int)) (by kernel_rfl) (fun c3 => ?_) (fun c3 => ?_)
   ·refine Ai ?_
    refine Ad ?_
    refine A1 ?_
    refine Ah [] [0, 3, 4, 8, 12, 25, 26, 64, 65, 66] [] hk0 v0 (cc 0 (p := (0 ≤ (j : Int) ∧ j < (((nth st.all i).1).files).length)) (by omega) <| c0) ?_
    refine Ap ?_
    refine Bq 4 0 [] [0, 3, 4, 8, 25, 26, 64, 65, 66, 70, 71, 73] [] hk0 v0 c0 ?_
    refine Hf [2, 1, 0] (f := 44) (cap := [(.ptr 2 0)]) (al := [(.str (nth (((nth st.all i).1).files) j)), (.agg [(.int .i64 ((i : Int))), (.bool false), (.int .i64 0), (.str [])])]) (al' := [(.str (nth (((nth st.all i).1).files) j)), (.agg [(.int .i64 ((i : Int))), (.bool false), (.int .i64 0), (.str [])]), (.ptr 0 0)]) (r := (.tup [])) (r' := (.tup [])) (s' := [(0, (.fp (Bo st))), (3, (.ptr 2 0)), (4, (.int .i64 ((i : Int)))), (8, (.fn 44 [] [(.ptr 2 0)])), (25, (.int .i64 ((st.all.length : Int)))), (26, (.int .i64 ((i : Int)))), (64, (C3 (((nth st.all i).1).files))), (65, (.int .i64 (((((nth st.all i).1).files).length : Int)))), (66, (.int .i64 ((j : Int)))), (70, (.fn 44 [] [(.ptr 2 0)])), (71, (.str (nth (((nth st.all i).1).files) j))), (73, (.agg [(.int .i64 ((i : Int))), (.bool false), (.int .i64 0), (.str [])])), (74, (.tup []))]) (H := [(0, (.row [(.ptr 1 0)] 32)), (1, (.row [(.int .i64 st.kind), (.int .i64 ((st.all.length : Int))), (.map 2)] 91)), (2, (.mm (A5 (Bl st.all i ++ El i (nth st.all i).1 j)) none 93 4))]) (H' := [(0, (.row [(.ptr 1 0)] 32)), (1, (.row [(.int .i64 st.kind), (.int .i64 ((st.all.length : Int))), (.map 2)] 91)), (2, (.mm (A5 (Bl st.all i ++ El i (nth st.all i).1 j ++ [(nth (nth st.all i).1.files j, (⟨(i : Int), false, 0, []⟩ : OfferT))])) none 93 4))]) (h2 := [(0, (.mm (A5 (Bl st.all i ++ El i (nth st.all i).1 j ++ [(nth (nth st.all i).1.files j, (⟨(i : Int), false, 0, []⟩ : OfferT))])) none 93 4)), (1, (.row [(.int .i64 st.kind), (.int .i64 ((st.all.length : Int))), (.map 0)] 91)), (2, (.row [(.ptr 1 0)] 32))]) (by kernel_rfl) (by kernel_rfl) (by exact S5) (by kernel_rfl) (by kernel_rfl) (by kernel_rfl) (by kernel_rfl) (by kernel_rfl) (Rj st.kind (st.all.length : Int) (Bl st.all i ++ El i (nth st.all i).1 j) (nth (nth st.all i).1.files j) ⟨(i : Int), false, 0, []⟩ (Nat.le_trans (Oy _ _) (by first | (simp only [List.length_append]; have := Ol (i := i) (p := (nth st.all i).1) (j := j); have := Ok (i := i) (p := (nth st.all i).1) (j := j); omega) | omega))) (by kernel_rfl) (by kernel_rfl) (by kernel_rfl) ?_
    refine Bx ?_
    refine Ap ?_
    refine Av 0 [] [0, 3, 4, 8, 25, 26, 64, 65, 66] [] hk0 v0 (cc 0 (p := (-9223372036854775808 ≤ (j : Int) + 1 ∧ (j : Int) + 1 ≤ 9223372036854775807)) (by omega) <| c0) ?_
    refine ⟨by kernel_rfl, _, ?_, j + 1, ?_, (Eq.trans (b := (⟨[(0, (.fp (Bo st))), (3, (.ptr 2 0)), (4, (.int .i64 ((i : Int)))), (8, (.fn 44 [] [(.ptr 2 0)])), (25, (.int .i64 ((st.all.length : Int)))), (26, (.int .i64 ((i : Int)))), (64, (C3 (((nth st.all i).1).files))), (65, (.int .i64 (((((nth st.all i).1).files).length : Int)))), (66, (.int .i64 ((j : Int) + 1)))], [(0, (.mm (A5 (Bl st.all i ++ El i (nth st.all i).1 j ++ [(nth (nth st.all i).1.files j, (⟨(i : Int), false, 0, []⟩ : OfferT))])) none 93 4)), (1, (.row [(.int .i64 st.kind), (.int .i64 ((st.all.length : Int))), (.map 0)] 91)), (2, (.row [(.ptr 1 0)] 32))], 4⟩ : St)) (by kernel_rfl) (by rw [Q5x (by omega), ← List.append_assoc] <;> kernel_rfl)), rfl⟩
    ·omega
    ·omega
   ·refine Br ?_
    refine Ap ?_
    refine Av 0 [] [0, 3, 25, 26] [] hk0 v0 (cc 0 (p := (-9223372036854775808 ≤ (i : Int) + 1 ∧ (i : Int) + 1 ≤ 9223372036854775807)) (by omega) <| c0) ?_
    refine ⟨by kernel_rfl, _, ?_, i + 1, ?_, (Eq.trans (b := (⟨[(0, (.fp (Bo st))), (3, (.ptr 2 0)), (25, (.int .i64 ((st.all.length : Int)))), (26, (.int .i64 ((i : Int) + 1)))], [(0, (.mm (A5 (Bl st.all i ++ El i (nth st.all i).1 j)) none 93 4)), (1, (.row [(.int .i64 st.kind), (.int .i64 ((st.all.length : Int))), (.map 0)] 91)), (2, (.row [(.ptr 1 0)] 32))], 3⟩ : St)) (by kernel_rfl) (by rw [V3, show K4 i (nth st.all i).1 = El i (nth st.all i).1 j from by unfold K4; rw [show (nth st.all i).1.files.length = j from by omega]] <;> kernel_rfl)), rfl⟩
    ·omega
    ·omega
 ·refine Br ?_
  refine Ad ?_
  refine Ap ?_
  refine Jk 1 2 (y := ⟨[(0, (.fp (Bo st))), (3, (.ptr 2 0)), (25, (.int .i64 ((st.all.length : Int)))), (26, (.int .i64 ((i : Int)))), (27, (.bool (decide ((i : Int) < (st.all.length : Int)))))], [(1, (.row [(.int .i64 st.kind), (.int .i64 ((st.all.length : Int))), (.smap (.slice none 0 0) (fun kq => .row 4 ((A5 (Bl st.all i)) kq).length (fun ix => ((A5 (Bl st.all i)) kq).getD ix Bm)))] 91)), (2, (.row [(.ptr 1 0)] 32))], 3⟩) (by kernel_rfl) ?_
  refine Fv [] [2] ?_
  refine Ag ?_
  refine RK wR [(.fp (.agg [(.int .i64 st.kind), (.int .i64 ((st.all.length : Int))), (.smap (.slice none 0 0) (fun kq => .row 4 ((A5 (Bl st.all i)) kq).length (fun ix => ((A5 (Bl st.all i)) kq).getD ix Bm)))]))] ?_
  rw [show i = st.all.length from by omega]
  exact Same.of_eq rfl
end Sv
end Go.Proofs.YtlmloohlmlahfaaGreatDoor
end
section
namespace Go.Proofs.YtlmloohlmlahfaaGreatDoor
open Go Go.RowKit
set_option linter.unusedSimpArgs false
set_option linter.unusedVariables false
namespace Sv
theorem Se {φ : Phi} : ∀ {l : List Int} {vs : List Value}, VRl φ (l.map (AV.int .i64)) vs → vs = l.map (Value.int .i64)
  | [], vs, h => h.nil_inv
  | x :: l, vs, h => by
    obtain ⟨v, vs', rfl, h1, h2⟩ := h.cons_inv
    simp only [VR] at h1
    rw [Se h2, h1]; rfl
theorem Qo {φ : Phi} : ∀ l : List Int, VRl φ (l.map (AV.int .i64)) (l.map (Value.int .i64))
  | [] => .nil
  | x :: l => .cons (by simp only [VR]) (Qo l)
theorem Pg (l : List Int) : (l.map (Value.int .i64)).flatMap (fun u => u.cells.toList) = l.map (Value.int .i64) := by
  induction l with
  | nil => rfl
  | cons x l ih => rw [List.map_cons, List.flatMap_cons, ih]; first | done | rfl
theorem Q1g (l : List Int) : ∀ u ∈ l.map (Value.int .i64), u.cells.size = 1 ∧ ∀ c ∈ u.cells.toList, c.oneCell' = true := by
  intro u hu
  obtain ⟨x, _, rfl⟩ := List.mem_map.1 hu
  exact ⟨rfl, fun c hc => by simp [Value.cells] at hc; subst hc; rfl⟩
theorem Rel.rebaseI {B : Bas} {φ : Phi} {h : AH} {w : World} (r : Rel B φ h w) : Rel (Gf φ h w) φ h w :=
  ⟨⟨rfl, rfl, rfl, Nat.le_refl _, fun _ _ => rfl⟩, r.fro, fun b o e => by have := r.obj b o e; cases o <;> exact this, r.sep, fun b o k e i => ⟨fun q => q.2 b o e i, (r.gf b o k e i).2⟩⟩
theorem Tp (zs : List Int) : (Lib.compact zs).length ≤ zs.length := by
  have : ∀ m, (Lib.compactUpTo zs.toArray m).length ≤ m := by
    intro m
    induction m with
    | zero => simp [Lib.compactUpTo]
    | succ m ih =>
      rw [Lib.compactUpTo_succ, List.length_append]
      split <;> simp <;> omega
  exact this _
theorem Q1c (l : List Int) (hl : l.length ≤ 4611686018427) :
    Fy Tryz.prog 123 [.own 0] [(0, .grow (l.map (AV.int .i64)) 3 1)] 1 (.own 0) [(0, .grow ((Lib.compact l).map (AV.int .i64)) 3 1)] := by
  intro B0 φ w vs r hv
  obtain ⟨v, rfl, hv1⟩ := hv.single_inv
  simp only [VR] at hv1
  obtain ⟨v0, us, q1, q2, q3, q4⟩ := r.obj 0 _ rfl
  rw [hv1.1] at q1; cases q1
  have hu := Se q3
  subst hu
  rw [Pg, List.length_map] at q2
  have hr := r.rebaseI
  rcases q2.2 with ⟨rfl, hn⟩ | ⟨g, cap, cur, rfl, hg1, hg2, hg3, hg4, hg5, hg6⟩
  · have hl0 : l = [] := List.length_eq_zero_iff.1 hn
    subst hl0
    refine (Tryz.slices_Compact_int_empty none 0 w).mono ?_
    rintro e w' ⟨he, rfl⟩
    exact ⟨_, he, φ, hr, by simp only [VR]; exact hv1, fun _ _ _ e => e, fun _ _ e => e, fun _ _ e => .inl e⟩
  · have hh : Go.Sort.Holds (Value.int .i64) w g 0 l.toArray := holds_of_blockI hg2 (by simpa using hg6)
    refine (Tryz.slices_Compact_int g 0 cap l w hh (by omega) hg3).mono ?_
    rintro e w' ⟨he, n, rfl⟩
    have hgr := grownBy_sortedI (w := w) (g := g) (n := n) (os := #[]) (Lib.compact l ++ List.replicate (l.length - (Lib.compact l).length) 0).toArray
    rw [Go.Sort.grow_empty] at hgr
    have hle := Tp l
    have hts : (Lib.compact l ++ List.replicate (l.length - (Lib.compact l).length) (0 : Int)).length = l.length := by simp; omega
    have ho := ownsRow_sortedI (n := n) (os := #[]) (base := 0) (ts := Lib.compact l ++ List.replicate (l.length - (Lib.compact l).length) 0) (ss := l) hts hg1 hg2 hg3 hg4 (by simpa using hg5)
    rw [Go.Sort.grow_empty] at ho
    refine ⟨_, he, ⟨φ.m, fun i => if i = 0 then some (.slice (some ⟨g, 0, none⟩) (Lib.compact l).length cap) else φ.s i, φ.f⟩, ?_, by simp only [VR]; exact ⟨rfl, _, _, _, rfl⟩, fun _ _ _ e => e, fun _ _ e => e, fun _ _ e => .inl e⟩
    have ht : Turn φ ⟨φ.m, fun i => if i = 0 then some (.slice (some ⟨g, 0, none⟩) (Lib.compact l).length cap) else φ.s i, φ.f⟩ 0 := ⟨fun _ => rfl, fun c hc => if_neg hc, fun _ _ e => e⟩
    refine Rel.grown (v' := .slice (some ⟨g, 0, none⟩) (Lib.compact l).length cap) (es' := (Lib.compact l).map (AV.int .i64)) hr (b := 0) rfl hv1.1 ht rfl rfl hgr (.inl rfl) (fun k hk => by cases hk; exact Nat.lt_of_lt_of_le (Ez hg2) hgr.size) ⟨_, (Lib.compact l).map (Value.int .i64), rfl, ?_, Qo _, Q1g _⟩
    rw [Pg, List.length_map]
    refine ⟨by simp, .inr ⟨g, cap, Go.Sort.putCells (Value.int .i64) 0 (Lib.compact l ++ List.replicate (l.length - (Lib.compact l).length) 0).toArray cur, rfl, hg1, ?_, by omega, hg4, by simp [Go.Sort.putCells, hg5], ?_⟩⟩
    · have := heap_sortedI (w := w) (g := g) (n := n) (os := #[]) (Lib.compact l ++ List.replicate (l.length - (Lib.compact l).length) 0).toArray hg2
      rw [Go.Sort.grow_empty] at this; exact this
    · have := take_putCellsI cur (Lib.compact l ++ List.replicate (l.length - (Lib.compact l).length) 0) (by rw [hts, hg5]; omega)
      have := congrArg (List.take (Lib.compact l).length) this
      rw [List.take_take, Nat.min_eq_left (by rw [hts]; exact hle), List.map_append, List.take_append_of_le_length (by simp), List.take_of_length_le (l := (Lib.compact l).map (Value.int .i64)) (by simp)] at this
      rw [Nat.mul_one]; exact this
end Sv
end Go.Proofs.YtlmloohlmlahfaaGreatDoor
end
section
namespace Go.Proofs.YtlmloohlmlahfaaGreatDoor
open Go Go.RowKit
namespace Sv
attribute [local irreducible] SW SO Bn
set_option maxHeartbeats 1000000
set_option maxRecDepth 100000
theorem X09 : Au Tryz.prog 122 := Ay Tryz.func122 (by kernel_rfl) rfl
theorem Z1 : Au Tryz.prog 56 := Ay Tryz.func56 (by kernel_rfl) rfl
theorem Q0s : Au Tryz.prog 124 := Ay Tryz.func124 (by kernel_rfl) rfl
theorem Pp : Au Tryz.prog 58 := Ay Tryz.func58 (by kernel_rfl) rfl
theorem Tc : Au Tryz.prog 123 := Ay Tryz.func123 (by kernel_rfl) rfl
theorem X0k : Au Tryz.prog 170 := Ay Tryz.func170 (by kernel_rfl) rfl
theorem X02 : Au Tryz.prog 140 := Ay Tryz.func140 (by kernel_rfl) rfl
theorem S0 : Au Tryz.prog 83 := Ay Tryz.func83 (by kernel_rfl) rfl
theorem Q6w (ps : List (List UInt8 × OfferT)) (s : List UInt8) : Imp (.row 4 (A5 ps s).length (fun i => (A5 ps s).getD i Bm)) (Ac 4 Ib (Cb ps s)) := Imp.list (f := Ib) (List.length_map _)
def H1 (m : Int → Int → List UInt8 → Int → List UInt8 → Bool × Int) : Prop := ∀ k op a o b, a.length ≤ 4194304 → b.length ≤ 4194304 → FnV Tryz.prog 170 [.int .i64 k, .int .i64 op, .str a, .int .i64 o, .str b] (.tup [.bool (m k op a o b).1, .int .i64 (m k op a o b).2])
def M9 (m : Int → Int → List UInt8 → Int → List UInt8 → Bool × Int) (k : Int) (d : DepT) (o : OfferT) : Bool := if d.op = 0 ∨ o.op = 0 then decide (d.op = 0) else (m k d.op d.evr o.op o.evr).1
def IdxOk (st : PoolT) : Prop := st.all.length ≤ 200 ∧ ∀ i, i < st.all.length → (nth st.all i).1.size ≤ 4194304
theorem IdxOk.len {st : PoolT} (h : IdxOk st) (s : List UInt8) : (Cb (Bl st.all st.all.length) s).length ≤ 2147483648 := by
 have h1 := V4 h.2 st.all.length (Nat.le_refl _)
 have h2 := Oy (Bl st.all st.all.length) s
 have h3 : (A5 (Bl st.all st.all.length) s).length = (Cb (Bl st.all st.all.length) s).length := List.length_map _
 have := h.1
 omega
theorem Fk {α : Type} [Inhabited α] {l : List α} {j : Nat} (h : j < l.length) : nth l j = l[j] := by simp [nth, h]
theorem Q5w {st : PoolT} (h : IdxOk st) {q : List UInt8 × OfferT} (hq : q ∈ Bl st.all st.all.length) : q.2.evr.length ≤ 4194304 := by
 unfold Bl at hq
 obtain ⟨i, hi, hq⟩ := List.mem_flatMap.1 hq
 have hi : i < st.all.length := by simpa using hi
 have h1 := h.2 i hi
 have h2 := (nth st.all i).1.sizes
 unfold K4 El E8 at hq
 simp only [List.take_length, List.cons_append, List.mem_cons, List.mem_append, List.mem_map] at hq
 rcases hq with rfl | ⟨d, hd, rfl⟩ | ⟨x, hx, rfl⟩
 ·show (nth st.all i).1.evr.length ≤ _; omega
 ·obtain ⟨j, hj, rfl⟩ := List.getElem_of_mem hd
  have h3 := Kh (l := (nth st.all i).1.provides) (i := j) hj
  have h4 := Ep (nth (nth st.all i).1.provides j)
  have h5 : argsSize (nth st.all i).1.provides ≤ (nth st.all i).1.depSize := by unfold PkgT.depSize; omega
  have h6 : nth (nth st.all i).1.provides j = (nth st.all i).1.provides[j] := Fk hj
  rw [h6] at h3 h4
  show (nth st.all i).1.provides[j].evr.length ≤ _
  omega
 ·exact Nat.zero_le _
theorem IdxOk.evr {st : PoolT} (h : IdxOk st) {s : List UInt8} {i : Nat} (hi : i < (Cb (Bl st.all st.all.length) s).length) : (nth (Cb (Bl st.all st.all.length) s) i).evr.length ≤ 4194304 := by
 have hm : nth (Cb (Bl st.all st.all.length) s) i ∈ Cb (Bl st.all st.all.length) s := by
  have : nth (Cb (Bl st.all st.all.length) s) i = (Cb (Bl st.all st.all.length) s)[i] := by simp [nth, hi]
  rw [this]; exact List.getElem_mem hi
 obtain ⟨q, hq, e⟩ := List.mem_map.1 hm
 rw [← e]; exact Q5w h (List.mem_filter.1 hq).1
def J8 (m : Int → Int → List UInt8 → Int → List UInt8 → Bool × Int) (st : PoolT) (d : DepT) (own : Bool) (o : OfferT) : Bool := (o.own || !own) && M9 m st.kind d o
def Dp (m : Int → Int → List UInt8 → Int → List UInt8 → Bool × Int) (st : PoolT) (d : DepT) (own : Bool) (i : Nat) : List Int := (((Cb (Bl st.all st.all.length) d.name).take i).filter (J8 m st d own)).map fun o => o.id
def G3 (m : Int → Int → List UInt8 → Int → List UInt8 → Bool × Int) (st : PoolT) (d : DepT) (own : Bool) : List Int := Lib.compact (Dp m st d own (Cb (Bl st.all st.all.length) d.name).length)
theorem Y3 {m : Int → Int → List UInt8 → Int → List UInt8 → Bool × Int} {st : PoolT} {d : DepT} {own : Bool} {i : Nat} (h : i < (Cb (Bl st.all st.all.length) d.name).length) : Dp m st d own (i + 1) = Dp m st d own i ++ (if J8 m st d own (nth (Cb (Bl st.all st.all.length) d.name) i) = true then [(nth (Cb (Bl st.all st.all.length) d.name) i).id] else []) := by
 unfold Dp
 rw [List.take_add_one, List.getElem?_eq_getElem h, List.filter_append, List.map_append]
 congr 1
 have : nth (Cb (Bl st.all st.all.length) d.name) i = (Cb (Bl st.all st.all.length) d.name)[i] := by simp [nth, h]
 rw [this]
 cases hc : J8 m st d own (Cb (Bl st.all st.all.length) d.name)[i] <;> simp [hc]
theorem Sh {m : Int → Int → List UInt8 → Int → List UInt8 → Bool × Int} {st : PoolT} {d : DepT} {own : Bool} {i : Nat} : (Dp m st d own i).length ≤ (Cb (Bl st.all st.all.length) d.name).length := by
 unfold Dp
 rw [List.length_map]
 exact Nat.le_trans (List.length_filter_le _ _) (by simp; omega)
theorem Q8u {m : Int → Int → List UInt8 → Int → List UInt8 → Bool × Int} {st : PoolT} {d : DepT} {own : Bool} {i : Nat} (h : i < (Cb (Bl st.all st.all.length) d.name).length) (hc : J8 m st d own (nth (Cb (Bl st.all st.all.length) d.name) i) = true) : (Dp m st d own (i + 1)).map (AV.int .i64) = (Dp m st d own i).map (AV.int .i64) ++ [.int .i64 (nth (Cb (Bl st.all st.all.length) d.name) i).id] := by
 rw [Y3 h, if_pos hc, List.map_append]; rfl
theorem Q8v {m : Int → Int → List UInt8 → Int → List UInt8 → Bool × Int} {st : PoolT} {d : DepT} {own : Bool} {i : Nat} (h : i < (Cb (Bl st.all st.all.length) d.name).length) (hc : J8 m st d own (nth (Cb (Bl st.all st.all.length) d.name) i) = false) : Dp m st d own (i + 1) = Dp m st d own i := by
 rw [Y3 h, if_neg (by rw [hc]; simp), List.append_nil]
theorem Yr (l : List Int) (a : AV) (p : Int → Bool) (hl : l.length ≤ 4611686018427387904) (ha : ∀ i, i < l.length → FunV Tryz.prog a [(.int .i64 (nth l i))] (.bool (p (nth l i)))) :
  FnV Tryz.prog 124 [(Af l), (.clo a)] (.int .i64 (Bz p l)) := by
 refine A4 [.tmp 4] Tryz.func124 rfl Tryz.ntmps124 rfl rfl (fun B F hF => ?_)
 refine Aa [] [0, 1] ?_
 refine Ad ?_
 refine Aa [] [0, 1, 7, 8] ?_
 refine A1 ?_
 refine Bv (fun g y => ∃ (i : Nat), i ≤ l.length ∧ (∀ j, j < i → p (nth l j) = false) ∧ y = ⟨[(0, (Af l)), (1, (.clo a)), (7, (.int .i64 ((l.length : Int)))), (8, (.int .i64 ((i : Int))))], [], 0⟩ ∧ g = l.length - i) [0, 1, 7, 8] 0 _ (by omega) ⟨0, (by omega), (by exact fun j hj => by omega), (by kernel_rfl), rfl⟩ ?_
 rintro g1 y1 ⟨i, f1_1, f1_2, rfl, rfl⟩
 refine Aa [] [0, 1, 7, 8, 9] ?_
 refine Ad ?_
 refine A6 (p := (i : Int) < (l.length : Int)) (by kernel_rfl) (fun c1 => ?_) (fun c1 => ?_)
 ·refine Ai ?_
  refine Ad ?_
  refine A1 ?_
  refine Aa [] [0, 1, 5, 7, 8] ?_
  refine Ad ?_
  refine Ap ?_
  refine Bq 5 0 [] [0, 1, 5, 7, 8, 11, 15] [] hk0 v0 (cc 3 (p := (0 ≤ (i : Int) ∧ i < l.length)) (by omega) <| c0) ?_
  refine Fd (s' := [(0, (Af l)), (1, (.clo a)), (5, (.int .i64 ((i : Int)))), (7, (.int .i64 ((l.length : Int)))), (8, (.int .i64 ((i : Int)))), (11, (.clo a)), (15, (.int .i64 (nth l i))), (16, (.bool (p (nth l i))))]) (a := (.clo a)) (al := [(.int .i64 (nth l i))]) (r := (.bool (p (nth l i)))) (by kernel_rfl) (by kernel_rfl) (by kernel_rfl) (by kernel_rfl) (by kernel_rfl) ((ha i (by omega)).clo) (by kernel_rfl) ?_
  refine Bx ?_
  refine Bd (q := p (nth l i)) (by kernel_rfl) (fun c2 => ?_) (fun c2 => ?_)
  ·try simp only [Ao] at c2
   refine Aa [] [4] ?_
   refine Ag ?_
   refine RK wR [(.int .i64 ((i : Int)))] ?_
   exact Same.of_eq (by rw [J6 (by omega) f1_2 (by simp_all)]; rfl)
  ·try simp only [Ao] at c2
   refine Ai ?_
   refine Ap ?_
   refine Av 0 [] [0, 1, 7, 8] [] hk0 v0 (cc 0 (p := (-9223372036854775808 ≤ (i : Int) + 1 ∧ (i : Int) + 1 ≤ 9223372036854775807)) (by omega) <| c0) ?_
   refine ⟨by kernel_rfl, _, ?_, i + 1, ?_, ?_, (by kernel_rfl), rfl⟩
   ·omega
   ·omega
   ·intro j hj
    by_cases h : j = i
    ·subst h; simp_all
    ·exact f1_2 j (by omega)
 ·refine Br ?_
  refine Aa [] [4] ?_
  refine Ag ?_
  refine RK wR [(.int .i64 (-1))] ?_
  exact Same.of_eq (by rw [J5 (fun j hj => f1_2 j (by omega))]; rfl)
theorem Pb (l : List Int) (a : AV) (p : Int → Bool) (hl : l.length ≤ 4611686018427387904) (ha : ∀ i, i < l.length → FunV Tryz.prog a [(.int .i64 (nth l i))] (.bool (p (nth l i)))) :
  FnV Tryz.prog 58 [(Af l), (.clo a)] (.bool (l.any p)) := by
 refine A4 [.tmp 4] Tryz.func58 rfl Tryz.ntmps58 rfl rfl (fun B F hF => ?_)
 refine Aa [] [0, 1] ?_
 refine Ah [] [4] [] (hk 2 Q0s (Yr l a p hl ha) <| hk0) v0 c0 ?_
 refine Ag ?_
 refine RK wR [(.bool (decide (0 ≤ (Bz p l))))] ?_
 exact Same.of_eq (by simp only [Ak]; rw [J7])
theorem Q9b (m : Int → Int → List UInt8 → Int → List UInt8 → Bool × Int) (hM : H1 m) (st : PoolT) (d : DepT) (o : OfferT) (hd : d.size ≤ 4194304) (ho : o.evr.length ≤ 4194304) :
  FnV Tryz.prog 122 [(.fp (A3 st)), (.agg [(.int .i64 d.kind), (.str d.name), (.int .i64 d.op), (.str d.evr), (.row 5 d.args.length (depAt d.args))]), (.agg [(.int .i64 o.id), (.bool o.own), (.int .i64 o.op), (.str o.evr)])] (.bool (M9 m st.kind d o)) := by
 have hda := Ep d
 refine A4 [.tmp 6] Tryz.func122 rfl Tryz.ntmps122 rfl rfl (fun B F hF => ?_)
 refine Ah [] [0, 4, 5] [(1, 4), (2, 5)] hk0 v0 c0 ?_
 refine Ad ?_
 obtain ⟨b1, hb1⟩ : ∃ b, b = (decide (d.op = 0)) := ⟨_, rfl⟩
 refine Ah (CS := [(5, ((!b1) = true → (!b1) = true)), (6, ((!b1) = true → (!b1) = true)), (7, (b1 = false → (!b1) = true))]) [13, 14, 15] [0, 4, 5, 16] [] hk0 (vk 4 12 (a := .bool (decide (d.op = 0))) (b := .bool b1) (Imp.of_eq (by rw [hb1])) <| v0) (by refine cc _ ?_ <| cc _ ?_ <| cc _ ?_ c0 <;> simp) ?_
 refine Bd (q := b1 || (decide (o.op = 0))) (by kernel_rfl) (fun c1 => ?_) (fun c1 => ?_)
 ·subst hb1
  try simp only [Ao] at c1
  refine Aa [] [6] ?_
  refine Ag ?_
  refine RK wR [(.bool (decide (d.op = 0)))] ?_
  exact Same.of_eq (by simp only [Ak]; unfold M9; rw [if_pos (by simpa using c1)])
 ·subst hb1
  try simp only [Ao] at c1
  refine Ai ?_
  refine Cq [] [7] [] (hk 12 X0k (hM st.kind d.op d.evr o.op o.evr (by omega) ho) <| hk0) v0 c0 ?_
  refine Aa [] [6] ?_
  refine Ag ?_
  refine RK wR [(.bool ((m st.kind d.op d.evr o.op o.evr).1))] ?_
  exact Same.of_eq (by simp only [Ak]; unfold M9; rw [if_neg (by simpa using c1)])
theorem Xw (m : Int → Int → List UInt8 → Int → List UInt8 → Bool × Int) (hM : H1 m) (st : PoolT) (hi : IdxOk st) (d : DepT) (own : Bool) (hd : d.size ≤ 4194304) :
  FnV Tryz.prog 56 [(.fp (A3 st)), (.agg [(.int .i64 d.kind), (.str d.name), (.int .i64 d.op), (.str d.evr), (.row 5 d.args.length (depAt d.args))]), (.bool own)] (Af (G3 m st d own)) := by
 have hlg : (A5 (Bl st.all st.all.length) d.name).length = (Cb (Bl st.all st.all.length) d.name).length := List.length_map _
 have hll := hi.len d.name
 refine A4 [.tmp 6] Tryz.func56 rfl Tryz.ntmps56 rfl rfl (fun B F hF => ?_)
 refine Ah [] [0, 2, 4] [(1, 4)] hk0 v0 c0 ?_
 refine Aa [] [0, 2, 4, 7] ?_
 refine Ad ?_
 refine Ad ?_
 refine It (by kernel_rfl) (fun F1 hF1 => ?_)
 refine C0 (fuel := 2) [] [0, 1, 2, 3, 4, 5, 8] [0, 2, 4, 7, 13, 15, 18] A0 ?_
 refine Fx (fuel := 1) 6 (by kernel_rfl) ?_
 refine Db (fuel := 1) 6 rfl ?_
 refine X4b (s := d.name) (z := .slice none 0 0) (G := fun s => .row 4 (A5 (Bl st.all st.all.length) s).length (fun i => (A5 (Bl st.all st.all.length) s).getD i Bm)) (s' := [(0, (.fp (A3 st))), (2, (.bool own)), (4, (.fp (.agg [(.int .i64 d.kind), (.str d.name), (.int .i64 d.op), (.str d.evr), (.row 5 d.args.length (depAt d.args))]))), (7, .nils), (13, (.smap (.slice none 0 0) (fun s => .row 4 (A5 (Bl st.all st.all.length) s).length (fun i => (A5 (Bl st.all st.all.length) s).getD i Bm)))), (15, (.str d.name)), (18, (.int .i64 0)), (16, (.row 4 (A5 (Bl st.all st.all.length) d.name).length (fun i => (A5 (Bl st.all st.all.length) d.name).getD i Bm)))]) (by kernel_rfl) (by kernel_rfl) (by kernel_rfl) Tryz.underlying89 Tryz.underlying9 (fun _ => by kernel_rfl) (by kernel_rfl) ?_
 refine Bx ⟨rfl, ?_⟩
 refine C0 (fuel := 0) [] [7] [0, 2, 4, 7, 16, 17, 18] A0 ?_
 refine Az [0, 2, 4, 7, 16, 17, 18] ?_
 refine Gi (by kernel_rfl) ?_
 refine A1 ?_
 refine T8 16 (Ac 4 Ib (Cb (Bl st.all st.all.length) d.name)) (by kernel_rfl) (Q6w (Bl st.all st.all.length) d.name) ?_
 refine Qd 3 1 7 (y := ⟨[(0, (.fp (A3 st))), (2, (.bool own)), (4, (.fp (.agg [(.int .i64 d.kind), (.str d.name), (.int .i64 d.op), (.str d.evr), (.row 5 d.args.length (depAt d.args))]))), (7, (.own 1)), (16, (Ac 4 Ib (Cb (Bl st.all st.all.length) d.name))), (17, (.int .i64 (((A5 (Bl st.all st.all.length) d.name).length : Int)))), (18, (.int .i64 0))], [(1, (.grow [] 3 1))], 2⟩) (by kernel_rfl) (by kernel_rfl) ?_
 refine Bv (fun g y => ∃ (i : Nat), i ≤ (Cb (Bl st.all st.all.length) d.name).length ∧ y = ⟨[(0, (.fp (A3 st))), (2, (.bool own)), (4, (.fp (.agg [(.int .i64 d.kind), (.str d.name), (.int .i64 d.op), (.str d.evr), (.row 5 d.args.length (depAt d.args))]))), (7, (.own 1)), (16, (Ac 4 Ib (Cb (Bl st.all st.all.length) d.name))), (17, (.int .i64 (((A5 (Bl st.all st.all.length) d.name).length : Int)))), (18, (.int .i64 ((i : Int))))], [(1, (.grow ((Dp m st d own i).map (AV.int .i64)) 3 1))], 2⟩ ∧ g = (Cb (Bl st.all st.all.length) d.name).length - i) [0, 2, 4, 7, 16, 17, 18] 2 _ (by omega) ⟨0, (by omega), (by kernel_rfl), rfl⟩ ?_
 rintro g1 y1 ⟨i, f1_1, rfl, rfl⟩
 have hhl := Sh (m := m) (st := st) (d := d) (own := own) (i := i)
 have hhm : ((Dp m st d own i).map (AV.int .i64)).length = (Dp m st d own i).length := List.length_map _
 refine Aa [] [0, 2, 4, 7, 16, 17, 18, 19] ?_
 refine Ad ?_
 refine A6 (p := (i : Int) < ((A5 (Bl st.all st.all.length) d.name).length : Int)) (by kernel_rfl) (fun c1 => ?_) (fun c1 => ?_)
 ·refine Ai ?_
  refine Ad ?_
  refine A1 ?_
  refine Ah [] [0, 2, 4, 7, 9, 16, 17, 18] [] hk0 v0 (cc 0 (p := (0 ≤ (i : Int) ∧ i < (Cb (Bl st.all st.all.length) d.name).length)) (by omega) <| c0) ?_
  obtain ⟨b1, hb1⟩ : ∃ b, b = ((nth (Cb (Bl st.all st.all.length) d.name) i).own) := ⟨_, rfl⟩
  refine Ah (CS := [(4, ((!b1) = true → (!b1) = true)), (5, (b1 = false → (!b1) = true)), (10, (b1 || (!own)) = true → (b1 || (!own)) = true ∧ (b1 || (!own)) = true ∧ (b1 || (!own)) = true), (11, ((b1 || (!own)) = true → (b1 || (!own)) = true))]) [25, 26, 29, 30, 31] [0, 2, 4, 7, 9, 16, 17, 18, 33] [(0, 9)] (hkg 10 (b1 || (!own)) X09 (fun cg => Q9b m hM st d (nth (Cb (Bl st.all st.all.length) d.name) i) hd (hi.evr (by omega))) <| hk0) (vk 3 24 (a := .bool ((nth (Cb (Bl st.all st.all.length) d.name) i).own)) (b := .bool b1) (Imp.of_eq (by rw [hb1])) <| v0) (by refine cc _ ?_ <| cc _ ?_ <| cc _ ?_ <| cc _ ?_ c0 <;> simp) ?_
  refine Bd (q := (b1 || (!own)) && (M9 m st.kind d (nth (Cb (Bl st.all st.all.length) d.name) i))) (by kernel_rfl) (fun c2 => ?_) (fun c2 => ?_)
  ·subst hb1
   try simp only [Ao] at c2
   refine Ap ?_
   refine Av 0 [] [0, 2, 4, 7, 16, 17, 18] [] hk0 v0 (cc 4 (p := ((((Dp m st d own i).map (AV.int .i64)).length + 1) * 8 ≤ 140737488355328)) (by omega) <| c0) ?_
   refine Ap ?_
   refine Av 0 [] [0, 2, 4, 7, 16, 17, 18] [] hk0 v0 (cc 0 (p := (-9223372036854775808 ≤ (i : Int) + 1 ∧ (i : Int) + 1 ≤ 9223372036854775807)) (by omega) <| c0) ?_
   refine ⟨by kernel_rfl, _, ?_, i + 1, ?_, (Eq.trans (b := (⟨[(0, (.fp (A3 st))), (2, (.bool own)), (4, (.fp (.agg [(.int .i64 d.kind), (.str d.name), (.int .i64 d.op), (.str d.evr), (.row 5 d.args.length (depAt d.args))]))), (7, (.own 1)), (16, (Ac 4 Ib (Cb (Bl st.all st.all.length) d.name))), (17, (.int .i64 (((A5 (Bl st.all st.all.length) d.name).length : Int)))), (18, (.int .i64 ((i : Int) + 1)))], [(1, (.grow (((Dp m st d own i).map (AV.int .i64)) ++ ([(.int .i64 ((nth (Cb (Bl st.all st.all.length) d.name) i).id))] : List AV)) 3 1))], 2⟩ : St)) (by kernel_rfl) (by rw [Q8u (by omega) (by unfold J8; simpa using c2)] <;> kernel_rfl)), rfl⟩
   ·omega
   ·omega
  ·subst hb1
   try simp only [Ao] at c2
   refine Ai ?_
   refine Ap ?_
   refine Av 0 [] [0, 2, 4, 7, 16, 17, 18] [] hk0 v0 (cc 0 (p := (-9223372036854775808 ≤ (i : Int) + 1 ∧ (i : Int) + 1 ≤ 9223372036854775807)) (by omega) <| c0) ?_
   refine ⟨by kernel_rfl, _, ?_, i + 1, ?_, (Eq.trans (b := (⟨[(0, (.fp (A3 st))), (2, (.bool own)), (4, (.fp (.agg [(.int .i64 d.kind), (.str d.name), (.int .i64 d.op), (.str d.evr), (.row 5 d.args.length (depAt d.args))]))), (7, (.own 1)), (16, (Ac 4 Ib (Cb (Bl st.all st.all.length) d.name))), (17, (.int .i64 (((A5 (Bl st.all st.all.length) d.name).length : Int)))), (18, (.int .i64 ((i : Int) + 1)))], [(1, (.grow ((Dp m st d own i).map (AV.int .i64)) 3 1))], 2⟩ : St)) (by kernel_rfl) (by rw [Q8v (by omega) (by unfold J8; simp only [Bool.and_eq_false_iff, Bool.or_eq_false_iff, Bool.not_eq_false']; simpa only [Bool.not_eq_false', Bool.not_eq_eq_eq_not, Bool.not_false] using c2)] <;> kernel_rfl)), rfl⟩
   ·omega
   ·omega
 ·refine Br ?_
  refine Ad ?_
  refine Ap ?_
  refine Bq 1 0 [] [40] [] hk0 v0 c0 ?_
  refine L6 [1] (al := [(.own 1)]) (al' := [(.own 0)]) (r := (.own 0)) (r' := (.own 1)) (s' := [(40, Bm), (41, (.own 1))]) (H := [(0, (.grow ((Dp m st d own i).map (AV.int .i64)) 3 1))]) (H' := [(0, (.grow ((Lib.compact (Dp m st d own i)).map (AV.int .i64)) 3 1))]) (h2 := [(1, (.grow ((Lib.compact (Dp m st d own i)).map (AV.int .i64)) 3 1))]) (by kernel_rfl) (by exact Tc) (by kernel_rfl) (by kernel_rfl) (by kernel_rfl) (by kernel_rfl) (by kernel_rfl) (Q1c (Dp m st d own i) (by have := Sh (m := m) (st := st) (d := d) (own := own) (i := i); omega)) (by kernel_rfl) (by kernel_rfl) (by kernel_rfl) ?_
  refine Av 2 [] [6] [] hk0 v0 c0 ?_
  refine Ag ?_
  refine RK wR [(.row 1 ((Lib.compact (Dp m st d own i)).map (AV.int .i64)).length (fun ix => ((Lib.compact (Dp m st d own i)).map (AV.int .i64)).getD ix Bm))] ?_
  rw [show i = (Cb (Bl st.all st.all.length) d.name).length from by omega]
  exact Same.list (f := AV.int .i64) (List.length_map _)
end Sv
end Go.Proofs.YtlmloohlmlahfaaGreatDoor
end
section
namespace Go.Proofs.YtlmloohlmlahfaaGreatDoor
open Go Go.RowKit
namespace Sv
attribute [local irreducible] SW SO Bn
set_option maxHeartbeats 400000
set_option maxRecDepth 100000
theorem X0m : Au Tryz.prog 169 := Ay Tryz.func169 (by kernel_rfl) rfl
theorem X1b : Au Tryz.prog 120 := Ay Tryz.func120 (by kernel_rfl) rfl
theorem X1e : Au Tryz.prog 117 := Ay Tryz.func117 (by kernel_rfl) rfl
theorem X1d : Au Tryz.prog 118 := Ay Tryz.func118 (by kernel_rfl) rfl
theorem X1c : Au Tryz.prog 119 := Ay Tryz.func119 (by kernel_rfl) rfl
theorem X1a : Au Tryz.prog 121 := Ay Tryz.func121 (by kernel_rfl) rfl
theorem Z2 : Au Tryz.prog 54 := Ay Tryz.func54 (by kernel_rfl) rfl
instance : Inhabited AV := ⟨.nilf⟩
def Ge (q : AV × Bool) : AV := .clo q.1
def Ms (l : List Int) (v : Int) : Int := Bz (fun x => decide (v = x)) l
theorem Q8n (l : List Int) (v : Int) (hl : l.length ≤ 4611686018427387904) :
  FnV Tryz.prog 140 [(Af l), (.int .i64 v)] (.int .i64 (Ms l v)) := by
 refine A4 [.tmp 4] Tryz.func140 rfl Tryz.ntmps140 rfl rfl (fun B F hF => ?_)
 refine Aa [] [0, 1] ?_
 refine Ad ?_
 refine Aa [] [0, 1, 7, 8] ?_
 refine A1 ?_
 refine Bv (fun g y => ∃ (i : Nat), i ≤ l.length ∧ (∀ j, j < i → ¬ v = nth l j) ∧ y = ⟨[(0, (Af l)), (1, (.int .i64 v)), (7, (.int .i64 ((l.length : Int)))), (8, (.int .i64 ((i : Int))))], [], 0⟩ ∧ g = l.length - i) [0, 1, 7, 8] 0 _ (by omega) ⟨0, (by omega), (by exact fun j hj => by omega), (by kernel_rfl), rfl⟩ ?_
 rintro g1 y1 ⟨i, f1_1, f1_2, rfl, rfl⟩
 refine Aa [] [0, 1, 7, 8, 9] ?_
 refine Ad ?_
 refine A6 (p := (i : Int) < (l.length : Int)) (by kernel_rfl) (fun c1 => ?_) (fun c1 => ?_)
 ·refine Ai ?_
  refine Ad ?_
  refine A1 ?_
  refine Aa [] [0, 1, 5, 7, 8] ?_
  refine Ah [] [0, 1, 5, 7, 8, 16] [] hk0 v0 (cc 3 (p := (0 ≤ (i : Int) ∧ i < l.length)) (by omega) <| c0) ?_
  refine A6 (p := v = (nth l i)) (by kernel_rfl) (fun c2 => ?_) (fun c2 => ?_)
  ·refine Aa [] [4] ?_
   refine Ag ?_
   refine RK wR [(.int .i64 ((i : Int)))] ?_
   exact Same.of_eq (by unfold Ms; rw [J6 (p := fun x => decide (v = x)) (i := i) (by omega) (fun j hj => by simpa using f1_2 j hj) (by simpa using c2)]; rfl)
  ·refine Ai ?_
   refine Ap ?_
   refine Av 0 [] [0, 1, 7, 8] [] hk0 v0 (cc 0 (p := (-9223372036854775808 ≤ (i : Int) + 1 ∧ (i : Int) + 1 ≤ 9223372036854775807)) (by omega) <| c0) ?_
   refine ⟨by kernel_rfl, _, ?_, i + 1, ?_, ?_, (by kernel_rfl), rfl⟩
   ·omega
   ·omega
   ·intro j hj
    by_cases h : j = i
    ·subst h; assumption
    ·exact f1_2 j (by omega)
 ·refine Br ?_
  refine Aa [] [4] ?_
  refine Ag ?_
  refine RK wR [(.int .i64 (-1))] ?_
  exact Same.of_eq (by unfold Ms; rw [J5 (p := fun x => decide (v = x)) (fun j hj => by simpa using f1_2 j (by omega))]; rfl)
theorem Tm (l : List Int) (v : Int) (hl : l.length ≤ 4611686018427387904) :
  FnV Tryz.prog 83 [(Af l), (.int .i64 v)] (.bool (l.any fun x => decide (v = x))) := by
 refine A4 [.tmp 4] Tryz.func83 rfl Tryz.ntmps83 rfl rfl (fun B F hF => ?_)
 refine Aa [] [0, 1] ?_
 refine Ah [] [4] [] (hk 2 X02 (Q8n l v hl) <| hk0) v0 c0 ?_
 refine Ag ?_
 refine RK wR [(.bool (decide (0 ≤ (Ms l v))))] ?_
 exact Same.of_eq (by simp only [Ak]; unfold Ms; rw [J7])
theorem Q82 (l : List (AV × Bool)) (a : AV) (p : (AV × Bool) → Bool) (hl : l.length ≤ 4611686018427387904) (ha : ∀ i, i < l.length → FunV Tryz.prog a [(.clo ((nth l i).1))] (.bool (p (nth l i)))) :
  FnV Tryz.prog 169 [(Ac 1 Ge l), (.clo a)] (.int .i64 (Bz p l)) := by
 refine A4 [.tmp 4] Tryz.func169 rfl Tryz.ntmps169 rfl rfl (fun B F hF => ?_)
 refine Aa [] [0, 1] ?_
 refine Ad ?_
 refine Aa [] [0, 1, 7, 8] ?_
 refine A1 ?_
 refine Bv (fun g y => ∃ (i : Nat), i ≤ l.length ∧ (∀ j, j < i → p (nth l j) = false) ∧ y = ⟨[(0, (Ac 1 Ge l)), (1, (.clo a)), (7, (.int .i64 ((l.length : Int)))), (8, (.int .i64 ((i : Int))))], [], 0⟩ ∧ g = l.length - i) [0, 1, 7, 8] 0 _ (by omega) ⟨0, (by omega), (by exact fun j hj => by omega), (by kernel_rfl), rfl⟩ ?_
 rintro g1 y1 ⟨i, f1_1, f1_2, rfl, rfl⟩
 refine Aa [] [0, 1, 7, 8, 9] ?_
 refine Ad ?_
 refine A6 (p := (i : Int) < (l.length : Int)) (by kernel_rfl) (fun c1 => ?_) (fun c1 => ?_)
 ·refine Ai ?_
  refine Ad ?_
  refine A1 ?_
  refine Aa [] [0, 1, 5, 7, 8] ?_
  refine Ad ?_
  refine Ap ?_
  refine Bq 5 0 [] [0, 1, 5, 7, 8, 11, 15] [] hk0 v0 (cc 3 (p := (0 ≤ (i : Int) ∧ i < l.length)) (by omega) <| c0) ?_
  refine Fd (s' := [(0, (Ac 1 Ge l)), (1, (.clo a)), (5, (.int .i64 ((i : Int)))), (7, (.int .i64 ((l.length : Int)))), (8, (.int .i64 ((i : Int)))), (11, (.clo a)), (15, (.clo ((nth l i).1))), (16, (.bool (p (nth l i))))]) (a := (.clo a)) (al := [(.clo ((nth l i).1))]) (r := (.bool (p (nth l i)))) (by kernel_rfl) (by kernel_rfl) (by kernel_rfl) (by kernel_rfl) (by kernel_rfl) ((ha i (by omega)).clo) (by kernel_rfl) ?_
  refine Bx ?_
  refine Bd (q := p (nth l i)) (by kernel_rfl) (fun c2 => ?_) (fun c2 => ?_)
  ·try simp only [Ao] at c2
   refine Aa [] [4] ?_
   refine Ag ?_
   refine RK wR [(.int .i64 ((i : Int)))] ?_
   exact Same.of_eq (by rw [J6 (by omega) f1_2 (by simp_all)]; rfl)
  ·try simp only [Ao] at c2
   refine Ai ?_
   refine Ap ?_
   refine Av 0 [] [0, 1, 7, 8] [] hk0 v0 (cc 0 (p := (-9223372036854775808 ≤ (i : Int) + 1 ∧ (i : Int) + 1 ≤ 9223372036854775807)) (by omega) <| c0) ?_
   refine ⟨by kernel_rfl, _, ?_, i + 1, ?_, ?_, (by kernel_rfl), rfl⟩
   ·omega
   ·omega
   ·intro j hj
    by_cases h : j = i
    ·subst h; simp_all
    ·exact f1_2 j (by omega)
 ·refine Br ?_
  refine Aa [] [4] ?_
  refine Ag ?_
  refine RK wR [(.int .i64 (-1))] ?_
  exact Same.of_eq (by rw [J5 (fun j hj => f1_2 j (by omega))]; rfl)
theorem Q83 (l : List (AV × Bool)) (a : AV) (p : (AV × Bool) → Bool) (hl : l.length ≤ 4611686018427387904) (ha : ∀ i, i < l.length → FunV Tryz.prog a [(.clo ((nth l i).1))] (.bool (p (nth l i)))) :
  FnV Tryz.prog 120 [(Ac 1 Ge l), (.clo a)] (.bool (l.any p)) := by
 refine A4 [.tmp 4] Tryz.func120 rfl Tryz.ntmps120 rfl rfl (fun B F hF => ?_)
 refine Aa [] [0, 1] ?_
 refine Ah [] [4] [] (hk 2 X0m (Q82 l a p hl ha) <| hk0) v0 c0 ?_
 refine Ag ?_
 refine RK wR [(.bool (decide (0 ≤ (Bz p l))))] ?_
 exact Same.of_eq (by simp only [Ak]; rw [J7])
theorem X3h (l : List Int) (id : Int) (hl : l.length ≤ 4611686018427387904) :
  FnV Tryz.prog 117 [(.int .i64 id), (.fp (.agg [(Af l)]))] (.bool (l.any fun x => decide (id = x))) := by
 refine A4 [.tmp 3] Tryz.func117 rfl Tryz.ntmps117 rfl rfl (fun B F hF => ?_)
 refine Aa [] [0, 1] ?_
 refine Ah [] [3] [] (hk 2 S0 (Tm l id hl) <| hk0) v0 c0 ?_
 refine Ag ?_
 refine RK wR [(.bool (l.any fun x => decide (id = x)))] ?_
 exact Same.of_eq (by first | rfl | (simp only [Ak]; simp_all))
theorem X3g (l : List (AV × Bool)) (id : Int) (hl : 2 ≤ l.length) (hf : ∀ i, i < l.length → FunV Tryz.prog (nth l i).1 [.int .i64 id] (.bool (nth l i).2)) :
  FnV Tryz.prog 118 [(.int .i64 id), (.fp (.agg [(Ac 1 Ge l)]))] (.bool ((nth l 0).2 && !(nth l 1).2)) := by
 refine A4 [.tmp 3] Tryz.func118 rfl Tryz.ntmps118 rfl rfl (fun B F hF => ?_)
 refine Aa [] [0, 1] ?_
 refine Ad ?_
 refine Ap ?_
 refine Bq 4 0 [] [0, 1, 6, 7] [] hk0 v0 (cc 1 (p := (0 ≤ (0 : Int) ∧ 0 < l.length)) (by omega) <| c0) ?_
 refine Fd (s' := [(0, (.int .i64 id)), (1, (.fp (.agg [(Ac 1 Ge l)]))), (6, (.clo ((nth l 0).1))), (7, (.int .i64 id)), (8, (.bool ((nth l 0).2)))]) (a := (.clo ((nth l 0).1))) (al := [(.int .i64 id)]) (r := (.bool ((nth l 0).2))) (by kernel_rfl) (by kernel_rfl) (by kernel_rfl) (by kernel_rfl) (by kernel_rfl) ((hf 0 (by omega)).clo) (by kernel_rfl) ?_
 refine Bq 1 5 [] [0, 1, 9] [] hk0 v0 c0 ?_
 refine P3 ((nth l 0).2) (fun c1 => ?_) (fun c1 => ?_)
 ·refine Fu 9 (a := .bool ((nth l 0).2)) (.bool true) (by kernel_rfl) (Imp.of_eq (by rw [c1])) ?_
  refine Bq 4 6 [] [9, 12, 13] [] hk0 v0 (cc 7 (p := (0 ≤ (1 : Int) ∧ 1 < l.length)) (by omega) <| c0) ?_
  refine Fd (s' := [(9, (.bool true)), (12, (.clo ((nth l 1).1))), (13, (.int .i64 id)), (14, (.bool ((nth l 1).2)))]) (a := (.clo ((nth l 1).1))) (al := [(.int .i64 id)]) (r := (.bool ((nth l 1).2))) (by kernel_rfl) (by kernel_rfl) (by kernel_rfl) (by kernel_rfl) (by kernel_rfl) ((hf 1 (by omega)).clo) (by kernel_rfl) ?_
  refine Av 11 [] [3] [] hk0 v0 c0 ?_
  refine Ag ?_
  refine RK wR [(.bool (!((nth l 1).2)))] ?_
  exact Same.of_eq (by simp only [Ak]; simp_all)
 ·refine Fu 9 (a := .bool ((nth l 0).2)) (.bool false) (by kernel_rfl) (Imp.of_eq (by rw [c1])) ?_
  refine Av 6 [] [3] [] hk0 v0 c0 ?_
  refine Ag ?_
  refine RK wR [(.bool false)] ?_
  exact Same.of_eq (by simp only [Ak]; simp_all)
theorem X3f (a : AV) (q : Bool) (id : Int) (hf : FunV Tryz.prog a [.int .i64 id] (.bool q)) :
  FnV Tryz.prog 121 [(.clo a), (.fp (.agg [(.int .i64 id)]))] (.bool (!q)) := by
 refine A4 [.tmp 3] Tryz.func121 rfl Tryz.ntmps121 rfl rfl (fun B F hF => ?_)
 refine Aa [] [0, 1] ?_
 refine Ad ?_
 refine Ap ?_
 refine Bq 2 0 [] [4, 5] [] hk0 v0 c0 ?_
 refine Fd (s' := [(4, (.clo a)), (5, (.int .i64 id)), (6, (.bool q))]) (a := (.clo a)) (al := [(.int .i64 id)]) (r := (.bool q)) (by kernel_rfl) (by kernel_rfl) (by kernel_rfl) (by kernel_rfl) (by kernel_rfl) hf.clo (by kernel_rfl) ?_
 refine Av 3 [] [3] [] hk0 v0 c0 ?_
 refine Ag ?_
 refine RK wR [(.bool (!q))] ?_
 exact Same.of_eq (by first | rfl | (simp only [Ak]; simp_all))
theorem X3e (l : List (AV × Bool)) (id : Int) (hl : l.length ≤ 4611686018427387904) (hf : ∀ i, i < l.length → FunV Tryz.prog (nth l i).1 [.int .i64 id] (.bool (nth l i).2)) :
  FnV Tryz.prog 119 [(.int .i64 id), (.fp (.agg [(Ac 1 Ge l)]))] (.bool (!l.any fun q => !q.2)) := by
 refine A4 [.tmp 3] Tryz.func119 rfl Tryz.ntmps119 rfl rfl (fun B F hF => ?_)
 refine Aa [] [1, 2] ?_
 refine Ad ?_
 refine Ap ?_
 refine Bq 2 0 [] [4, 5] [] hk0 v0 c0 ?_
 refine Iu (s' := [(4, (Ac 1 Ge l)), (5, (.fn 121 [] [(.ptr 0 0)])), (6, (.bool (l.any fun q => !q.2)))]) (al := [(Ac 1 Ge l), (.fn 121 [] [(.ptr 0 0)])]) (al' := [(Ac 1 Ge l), (.fn 121 [] [(.fp (.agg [(.int .i64 id)]))])]) (h' := []) (r := (.bool (l.any fun q => !q.2))) (by kernel_rfl) (by exact X1b) (by kernel_rfl) (by kernel_rfl) ((Q83 l (.fn 121 [] [.fp (.agg [.int .i64 id])]) (fun q => !q.2) hl (fun i hi => FunV.of (by exact X1a) (X3f (nth l i).1 (nth l i).2 id (hf i hi)))).of_args (ImpL.cons Imp.refl (ImpL.cons (Imp.clo rfl) ImpL.nil))) rfl (by kernel_rfl) ?_
 refine Av 3 [] [3] [] hk0 v0 c0 ?_
 refine Ag ?_
 refine RK wR [(.bool (!(l.any fun q => !q.2)))] ?_
 exact Same.of_eq (by first | rfl | (simp only [Ak]; simp_all))
end Sv
end Go.Proofs.YtlmloohlmlahfaaGreatDoor
end
section
namespace Go.Proofs.YtlmloohlmlahfaaGreatDoor
open Go Go.RowKit
namespace Sv
attribute [local irreducible] SW SO Bn
set_option maxHeartbeats 1000000
set_option maxRecDepth 100000
noncomputable def B6 (m : Int → Int → List UInt8 → Int → List UInt8 → Bool × Int) (st : PoolT) : Nat → DepT → AV
 | 0, _ => .nilf
 | n + 1, d => if d.kind = 1 then .fn 117 [] [.fp (.agg [Af (G3 m st d false)])] else
  if d.kind = 6 then .fn 118 [] [.fp (.agg [.row 1 ((d.args.map (B6 m st n)).map AV.clo).length (fun i => ((d.args.map (B6 m st n)).map AV.clo).getD i Bm)])] else
  .fn 119 [] [.fp (.agg [.row 1 ((d.args.map (B6 m st n)).map AV.clo).length (fun i => ((d.args.map (B6 m st n)).map AV.clo).getD i Bm)])]
theorem Q2d {m : Int → Int → List UInt8 → Int → List UInt8 → Bool × Int} {st : PoolT} {n : Nat} {d : DepT} (h : d.kind = 1) : B6 m st (n + 1) d = .fn 117 [] [.fp (.agg [Af (G3 m st d false)])] := by unfold B6; rw [if_pos h]
theorem Q2c {m : Int → Int → List UInt8 → Int → List UInt8 → Bool × Int} {st : PoolT} {n : Nat} {d : DepT} (h : d.kind = 6) : B6 m st (n + 1) d = .fn 118 [] [.fp (.agg [.row 1 ((d.args.map (B6 m st n)).map AV.clo).length (fun i => ((d.args.map (B6 m st n)).map AV.clo).getD i Bm)])] := by unfold B6; rw [if_neg (by omega), if_pos h]
theorem Q2e {m : Int → Int → List UInt8 → Int → List UInt8 → Bool × Int} {st : PoolT} {n : Nat} {d : DepT} (h1 : ¬ d.kind = 1) (h6 : ¬ d.kind = 6) : B6 m st (n + 1) d = .fn 119 [] [.fp (.agg [.row 1 ((d.args.map (B6 m st n)).map AV.clo).length (fun i => ((d.args.map (B6 m st n)).map AV.clo).getD i Bm)])] := by unfold B6; rw [if_neg h1, if_neg h6]
theorem X3c {g : DepT → AV} {l : List DepT} {i : Nat} (h : i < l.length) : ((l.take (i + 1)).map g).map AV.clo = ((l.take i).map g).map AV.clo ++ [.clo (g (nth l i))] := by
 rw [List.take_add_one, List.getElem?_eq_getElem h, List.map_append, List.map_append]
 simp [nth, h]
theorem X3a (m : Int → Int → List UInt8 → Int → List UInt8 → Bool × Int) (hM : H1 m) (st : PoolT) (hi : IdxOk st) (n : Nat) (d : DepT) (hd : d.size ≤ 4194304) (ih : ∀ i, i < d.args.length → FnV Tryz.prog 54 [(.fp (A3 st)), (.agg [(.int .i64 ((nth d.args i).kind)), (.str ((nth d.args i).name)), (.int .i64 ((nth d.args i).op)), (.str ((nth d.args i).evr)), (.row 5 (nth d.args i).args.length (depAt (nth d.args i).args))])] (.clo (B6 m st n (nth d.args i)))) :
  FnV Tryz.prog 54 [(.fp (A3 st)), (.agg [(.int .i64 d.kind), (.str d.name), (.int .i64 d.op), (.str d.evr), (.row 5 d.args.length (depAt d.args))])] (.clo (B6 m st (n + 1) d)) := by
 have hda := Ep d
 have hal := Dr d.args
 refine A4 [.tmp 4] Tryz.func54 rfl Tryz.ntmps54 rfl rfl (fun B F hF => ?_)
 refine Ah [] [0, 3] [(1, 3)] hk0 v0 c0 ?_
 refine Ad ?_
 refine Aa [] [0, 3, 11] ?_
 refine A6 (p := d.kind = 1) (by kernel_rfl) (fun c1 => ?_) (fun c1 => ?_)
 ·refine Ah [] [5] [] (hk 2 Z1 (Xw m hM st hi d false hd) <| hk0) v0 c0 ?_
  refine Aa [] [4] ?_
  refine Ag ?_
  refine RK wR [(.fn 117 [] [(.fp (.agg [(Af (G3 m st d false))]))])] ?_
  simp only [Ak]
  rw [Q2d (by assumption)]
  exact (Imp.clo (by kernel_rfl)).same
 ·refine Ai ?_
  refine Aa [] [0, 3, 6] ?_
  refine Ad ?_
  refine Aa [] [0, 3, 6, 17, 18, 19] ?_
  refine A1 ?_
  refine T8 17 (Ac 5 Al d.args) (by kernel_rfl) (Ha d.args) ?_
  refine L3 108 1 1 0 (y := ⟨[(0, (.fp (A3 st))), (3, (.fp (.agg [(.int .i64 d.kind), (.str d.name), (.int .i64 d.op), (.str d.evr), (.row 5 d.args.length (depAt d.args))]))), (6, (.ptr 1 0)), (17, (Ac 5 Al d.args)), (18, (.int .i64 ((d.args.length : Int)))), (19, (.int .i64 0))], [(1, (.row [(.own 2)] 162)), (2, (.grow [] 108 1))], 3⟩) (by kernel_rfl) (by kernel_rfl) ?_
  refine Bv (fun g y => ∃ (i : Nat), i ≤ d.args.length ∧ y = ⟨[(0, (.fp (A3 st))), (3, (.fp (.agg [(.int .i64 d.kind), (.str d.name), (.int .i64 d.op), (.str d.evr), (.row 5 d.args.length (depAt d.args))]))), (6, (.ptr 1 0)), (17, (Ac 5 Al d.args)), (18, (.int .i64 ((d.args.length : Int)))), (19, (.int .i64 ((i : Int))))], [(1, (.row [(.own 2)] 162)), (2, (.grow (((d.args.take i).map (B6 m st n)).map AV.clo) 108 1))], 3⟩ ∧ g = d.args.length - i) [0, 3, 6, 17, 18, 19] 3 _ (by omega) ⟨0, (by omega), (by kernel_rfl), rfl⟩ ?_
  rintro g1 y1 ⟨i, f1_1, rfl, rfl⟩
  have hgl : (((d.args.take i).map (B6 m st n)).map AV.clo).length ≤ 4611686018 := by simp only [List.length_map, List.length_take]; omega
  refine Aa [] [0, 3, 6, 17, 18, 19, 20] ?_
  refine Ad ?_
  refine A6 (p := (i : Int) < (d.args.length : Int)) (by kernel_rfl) (fun c2 => ?_) (fun c2 => ?_)
  ·refine Ai ?_
   refine Dt (fun y => y = ⟨[(0, (.fp (A3 st))), (3, (.fp (.agg [(.int .i64 d.kind), (.str d.name), (.int .i64 d.op), (.str d.evr), (.row 5 d.args.length (depAt d.args))]))), (6, (.ptr 1 0)), (17, (Ac 5 Al d.args)), (18, (.int .i64 ((d.args.length : Int)))), (19, (.int .i64 ((i : Int))))], [(1, (.row [(.own 2)] 162)), (2, (.grow (((d.args.take (i + 1)).map (B6 m st n)).map AV.clo) 108 1))], 3⟩) [0, 3, 6, 17, 18, 19] 3 (by omega) ?_ ?_
   ·refine A1 ?_
    refine Ah [] [0, 3, 6, 8, 17, 18, 19] [] hk0 v0 (cc 0 (p := (0 ≤ (i : Int) ∧ i < d.args.length)) (by omega) <| c0) ?_
    refine Qe 8 (y := ⟨[(0, (.fp (A3 st))), (3, (.fp (.agg [(.int .i64 d.kind), (.str d.name), (.int .i64 d.op), (.str d.evr), (.row 5 d.args.length (depAt d.args))]))), (6, (.ptr 1 0)), (8, (.fp (.agg [(.int .i64 ((nth d.args i).kind)), (.str ((nth d.args i).name)), (.int .i64 ((nth d.args i).op)), (.str ((nth d.args i).evr)), (.row 5 (nth d.args i).args.length (depAt (nth d.args i).args))]))), (17, (Ac 5 Al d.args)), (18, (.int .i64 ((d.args.length : Int)))), (19, (.int .i64 ((i : Int))))], [(1, (.row [(.own 2)] 162)), (2, (.grow (((d.args.take i).map (B6 m st n)).map AV.clo) 108 1))], 4⟩) (by kernel_rfl) ?_
    refine Gy [] [0, 3, 6, 17, 18, 19] [] (hk 3 Z2 (ih i (by omega)) <| hk0) v0 (cc 5 (p := (((((d.args.take i).map (B6 m st n)).map AV.clo).length + 1) * 8 ≤ 140737488355328)) (by omega) <| c0) ?_
    refine ⟨by kernel_rfl, (Eq.trans (b := (⟨[(0, (.fp (A3 st))), (3, (.fp (.agg [(.int .i64 d.kind), (.str d.name), (.int .i64 d.op), (.str d.evr), (.row 5 d.args.length (depAt d.args))]))), (6, (.ptr 1 0)), (17, (Ac 5 Al d.args)), (18, (.int .i64 ((d.args.length : Int)))), (19, (.int .i64 ((i : Int))))], [(1, (.row [(.own 2)] 162)), (2, (.grow ((((d.args.take i).map (B6 m st n)).map AV.clo) ++ ([(.clo (B6 m st n (nth d.args i)))] : List AV)) 108 1))], 3⟩ : St)) (by kernel_rfl) (by rw [show ((((d.args.take i).map (B6 m st n)).map AV.clo) ++ ([(.clo (B6 m st n (nth d.args i)))] : List AV)) = ((d.args.take (i + 1)).map (B6 m st n)).map AV.clo from (X3c (g := B6 m st n) (l := d.args) (i := i) (by omega)).symm] <;> kernel_rfl))⟩
   ·rintro y1 rfl
    refine Ap ?_
    refine Av 0 [] [0, 3, 6, 17, 18, 19] [] hk0 v0 (cc 0 (p := (-9223372036854775808 ≤ (i : Int) + 1 ∧ (i : Int) + 1 ≤ 9223372036854775807)) (by omega) <| c0) ?_
    refine ⟨by kernel_rfl, _, ?_, i + 1, ?_, (by kernel_rfl), rfl⟩
    ·omega
    ·omega
  ·refine Br ?_
   refine Ad ?_
   refine Aa [] [6, 32] ?_
   refine A6 (p := d.kind = 6) (by kernel_rfl) (fun c3 => ?_) (fun c3 => ?_)
   ·refine Ad ?_
    refine Ap ?_
    refine Jk 1 0 (y := ⟨[(6, (.ptr 1 0)), (32, (.bool (decide (d.kind = 6))))], [(1, (.row [(.row 1 (((d.args.take i).map (B6 m st n)).map AV.clo).length (fun ix => (((d.args.take i).map (B6 m st n)).map AV.clo).getD ix Bm))] 162))], 3⟩) (by kernel_rfl) ?_
    refine Fv [] [4] ?_
    refine Ag ?_
    refine RK wR [(.fn 118 [] [(.fp (.agg [(.row 1 (((d.args.take i).map (B6 m st n)).map AV.clo).length (fun ix => (((d.args.take i).map (B6 m st n)).map AV.clo).getD ix Bm))]))])] ?_
    rw [show i = d.args.length from by omega]
    simp only [Ak]
    rw [show d.args.take d.args.length = d.args from List.take_length]
    rw [Q2c (by assumption) ]
    exact (Imp.clo (by kernel_rfl)).same
   ·refine Ai ?_
    refine Ad ?_
    refine Ap ?_
    refine Jk 1 0 (y := ⟨[(6, (.ptr 1 0)), (32, (.bool (decide (d.kind = 6))))], [(1, (.row [(.row 1 (((d.args.take i).map (B6 m st n)).map AV.clo).length (fun ix => (((d.args.take i).map (B6 m st n)).map AV.clo).getD ix Bm))] 162))], 3⟩) (by kernel_rfl) ?_
    refine Fv [] [4] ?_
    refine Ag ?_
    refine RK wR [(.fn 119 [] [(.fp (.agg [(.row 1 (((d.args.take i).map (B6 m st n)).map AV.clo).length (fun ix => (((d.args.take i).map (B6 m st n)).map AV.clo).getD ix Bm))]))])] ?_
    rw [show i = d.args.length from by omega]
    simp only [Ak]
    rw [show d.args.take d.args.length = d.args from List.take_length]
    rw [Q2e (by assumption) (by assumption)]
    exact (Imp.clo (by kernel_rfl)).same
theorem X3b (m : Int → Int → List UInt8 → Int → List UInt8 → Bool × Int) (hM : H1 m) (st : PoolT) (hi : IdxOk st) : ∀ (n : Nat) (d : DepT), d.size ≤ n → d.size ≤ 4194304 → FnV Tryz.prog 54 [(.fp (A3 st)), (.agg [(.int .i64 (d.kind)), (.str (d.name)), (.int .i64 (d.op)), (.str (d.evr)), (.row 5 d.args.length (depAt d.args))])] (.clo (B6 m st n d)) := by
 intro n
 induction n with
 | zero => intro d h; have := Ep d; omega
 | succ n ih => exact fun d h hd => X3a m hM st hi n d hd fun i hj => ih _ (by have h1 := Gj hj; omega) (by have h1 := Gj hj; omega)
end Sv
end Go.Proofs.YtlmloohlmlahfaaGreatDoor
end
section
namespace Go.Proofs.YtlmloohlmlahfaaGreatDoor
open Go Go.RowKit
namespace Sv
attribute [local irreducible] SW SO Bn
set_option maxHeartbeats 400000
set_option maxRecDepth 100000
theorem Lt : Au Tryz.prog 60 := Ay Tryz.func60 (by kernel_rfl) rfl
theorem X08 : Au Tryz.prog 125 := Ay Tryz.func125 (by kernel_rfl) rfl
theorem X07 : Au Tryz.prog 126 := Ay Tryz.func126 (by kernel_rfl) rfl
theorem Xx {m : Int → Int → List UInt8 → Int → List UInt8 → Bool × Int} {st : PoolT} (hi : IdxOk st) {d : DepT} {own : Bool} : (G3 m st d own).length ≤ 4611686018427387904 := by
 have h1 := Tp (Dp m st d own (Cb (Bl st.all st.all.length) d.name).length)
 have h2 := Sh (m := m) (st := st) (d := d) (own := own) (i := (Cb (Bl st.all st.all.length) d.name).length)
 have h3 := hi.len d.name
 unfold G3; omega
def woB : Nat → DepT → Bool
 | 0, _ => true
 | n + 1, d => (!(decide (d.kind = 6) || decide (d.kind = 4)) || decide (2 ≤ d.args.length)) && d.args.all (woB n)
def Dm (m : Int → Int → List UInt8 → Int → List UInt8 → Bool × Int) (st : PoolT) : Nat → DepT → Int → Bool
 | 0, _, _ => false
 | n + 1, d, id => if d.kind = 1 then (G3 m st d false).any fun x => decide (id = x) else
  if d.kind = 6 then Dm m st n (nth d.args 0) id && !Dm m st n (nth d.args 1) id else !(d.args.any fun a => !Dm m st n a id)
theorem Ur {n : Nat} {d : DepT} (h : woB (n + 1) d = true) (hk : d.kind = 6 ∨ d.kind = 4) : 2 ≤ d.args.length := by
 unfold woB at h
 simp only [Bool.and_eq_true, Bool.or_eq_true, Bool.not_eq_true', Bool.or_eq_false_iff, decide_eq_true_eq, decide_eq_false_iff_not] at h
 rcases h.1 with h | h
 ·omega
 ·exact h
theorem Us {n : Nat} {d : DepT} (h : woB (n + 1) d = true) {i : Nat} (hi : i < d.args.length) : woB n (nth d.args i) = true := by
 unfold woB at h
 simp only [Bool.and_eq_true, List.all_eq_true] at h
 exact h.2 _ (by rw [Fk hi]; exact List.getElem_mem hi)
theorem Q1f (g : DepT → AV) (q : DepT → Bool) (l : List DepT) : Imp (.row 1 ((l.map g).map AV.clo).length (fun i => ((l.map g).map AV.clo).getD i Bm)) (Ac 1 Ge (l.map fun a => (g a, q a))) := by
 have e : (l.map g).map AV.clo = (l.map fun a => (g a, q a)).map Ge := by rw [List.map_map, List.map_map]; rfl
 rw [e]; exact Imp.list (f := Ge) (List.length_map _)
theorem O1 {α β : Type} [Inhabited α] [Inhabited β] {g : α → β} {l : List α} {i : Nat} (h : i < l.length) : nth (l.map g) i = g (nth l i) := by simp [nth, h]
theorem X3d (m : Int → Int → List UInt8 → Int → List UInt8 → Bool × Int) (hM : H1 m) (st : PoolT) (hi : IdxOk st) (id : Int) : ∀ (n : Nat) (d : DepT), d.size ≤ n → d.size ≤ 4194304 → woB n d = true → FunV Tryz.prog (B6 m st n d) [.int .i64 id] (.bool (Dm m st n d id)) := by
 intro n
 induction n with
 | zero => intro d h; have := Ep d; omega
 | succ n ih =>
  intro d h hd hw
  have hsa := Ep d
  have hal := Dr d.args
  have hf : ∀ i, i < (d.args.map fun a => (B6 m st n a, Dm m st n a id)).length → FunV Tryz.prog (nth (d.args.map fun a => (B6 m st n a, Dm m st n a id)) i).1 [.int .i64 id] (.bool (nth (d.args.map fun a => (B6 m st n a, Dm m st n a id)) i).2) := by
   intro i hj
   have hj : i < d.args.length := by simpa using hj
   rw [O1 hj]
   have h1 := Gj hj
   exact ih _ (by omega) (by omega) (Us hw hj)
  by_cases h1 : d.kind = 1
  ·rw [Q2d h1]
   have e : Dm m st (n + 1) d id = (G3 m st d false).any fun x => decide (id = x) := by unfold Dm; rw [if_pos h1]
   rw [e]
   exact FunV.of (by exact X1e) (X3h (G3 m st d false) id (Xx hi))
  ·by_cases h6 : d.kind = 6
   ·have h2 := Ur hw (.inl h6)
    rw [Q2c h6]
    have e : Dm m st (n + 1) d id = ((nth (d.args.map fun a => (B6 m st n a, Dm m st n a id)) 0).2 && !(nth (d.args.map fun a => (B6 m st n a, Dm m st n a id)) 1).2) := by
     rw [O1 (g := fun a => (B6 m st n a, Dm m st n a id)) (l := d.args) (i := 0) (by omega), O1 (g := fun a => (B6 m st n a, Dm m st n a id)) (l := d.args) (i := 1) (by omega)]
     conv => lhs; unfold Dm
     rw [if_neg h1, if_pos h6]
    rw [e]
    exact FunV.of (by exact X1d) ((X3g (d.args.map fun a => (B6 m st n a, Dm m st n a id)) id (by simpa using h2) hf).of_args (ImpL.cons Imp.refl (ImpL.cons (Imp.fp (Imp.aggs (ImpL.cons (Q1f _ _ _) ImpL.nil))) ImpL.nil)))
   ·rw [Q2e h1 h6]
    have e : Dm m st (n + 1) d id = !((d.args.map fun a => (B6 m st n a, Dm m st n a id)).any fun q => !q.2) := by
     rw [List.any_map]
     conv => lhs; unfold Dm
     rw [if_neg h1, if_neg h6]; rfl
    rw [e]
    exact FunV.of (by exact X1c) ((X3e (d.args.map fun a => (B6 m st n a, Dm m st n a id)) id (by rw [List.length_map]; omega) hf).of_args (ImpL.cons Imp.refl (ImpL.cons (Imp.fp (Imp.aggs (ImpL.cons (Q1f _ _ _) ImpL.nil))) ImpL.nil)))
def Cl (m : Int → Int → List UInt8 → Int → List UInt8 → Bool × Int) (st : PoolT) (s : List Int) : Nat → DepT → Bool
 | 0, _ => false
 | n + 1, d => if d.kind = 2 then !(d.args.any fun a => !Cl m st s n a) else
  if d.kind = 3 then d.args.any fun a => Cl m st s n a else
  if d.kind = 4 then (if Cl m st s n (nth d.args 1) = true then Cl m st s n (nth d.args 0) else decide ((d.args.length : Int) < 3) || Cl m st s n (nth d.args 2)) else
  s.any fun id => Dm m st (n + 1) d id
end Sv
end Go.Proofs.YtlmloohlmlahfaaGreatDoor
end
section
namespace Go.Proofs.YtlmloohlmlahfaaGreatDoor
open Go Go.RowKit
namespace Sv
attribute [local irreducible] SW SO Bn
set_option maxHeartbeats 1000000
set_option maxRecDepth 100000
theorem Q7s {m : Int → Int → List UInt8 → Int → List UInt8 → Bool × Int} {st : PoolT} {s : List Int} {n : Nat} {d : DepT} (h : d.kind = 2) : Cl m st s (n + 1) d = !(d.args.any fun a => !Cl m st s n a) := by
 conv => lhs; unfold Cl
 rw [if_pos h]
theorem Q7q {m : Int → Int → List UInt8 → Int → List UInt8 → Bool × Int} {st : PoolT} {s : List Int} {n : Nat} {d : DepT} (h : d.kind = 3) : Cl m st s (n + 1) d = d.args.any fun a => Cl m st s n a := by
 conv => lhs; unfold Cl
 rw [if_neg (by omega), if_pos h]
theorem X3 {m : Int → Int → List UInt8 → Int → List UInt8 → Bool × Int} {st : PoolT} {s : List Int} {n : Nat} {d : DepT} (h : d.kind = 4) : Cl m st s (n + 1) d = if Cl m st s n (nth d.args 1) = true then Cl m st s n (nth d.args 0) else decide ((d.args.length : Int) < 3) || Cl m st s n (nth d.args 2) := by
 conv => lhs; unfold Cl
 rw [if_neg (by omega), if_neg (by omega), if_pos h]
theorem Q7r {m : Int → Int → List UInt8 → Int → List UInt8 → Bool × Int} {st : PoolT} {s : List Int} {n : Nat} {d : DepT} (h2 : ¬ d.kind = 2) (h3 : ¬ d.kind = 3) (h4 : ¬ d.kind = 4) : Cl m st s (n + 1) d = s.any fun id => Dm m st (n + 1) d id := by
 conv => lhs; unfold Cl
 rw [if_neg h2, if_neg h3, if_neg h4]
theorem Q7u (st : PoolT) (s : List Int) (a : DepT) (q : Bool) (h : FnV Tryz.prog 60 [(.fp (A3 st)), (.agg [(.int .i64 (a.kind)), (.str (a.name)), (.int .i64 (a.op)), (.str (a.evr)), (.row 5 a.args.length (depAt a.args))]), Af s] (.bool q)) :
  FnV Tryz.prog 125 [(.agg [(.int .i64 a.kind), (.str a.name), (.int .i64 a.op), (.str a.evr), (.row 5 a.args.length (depAt a.args))]), (.fp (.agg [(.fp (A3 st))])), (.fp (.agg [(Af s)]))] (.bool (!q)) := by
 refine A4 [.tmp 4] Tryz.func125 rfl Tryz.ntmps125 rfl rfl (fun B F hF => ?_)
 refine Ah [] [1, 2, 3] [(1, 3)] hk0 v0 c0 ?_
 refine Ah [] [4] [] (hk 3 Lt h <| hk0) v0 c0 ?_
 refine Ag ?_
 refine RK wR [(.bool (!q))] ?_
 exact Same.of_eq (by first | rfl | (simp only [Ak]; simp_all))
theorem Q7t (st : PoolT) (s : List Int) (a : DepT) (q : Bool) (h : FnV Tryz.prog 60 [(.fp (A3 st)), (.agg [(.int .i64 (a.kind)), (.str (a.name)), (.int .i64 (a.op)), (.str (a.evr)), (.row 5 a.args.length (depAt a.args))]), Af s] (.bool q)) :
  FnV Tryz.prog 126 [(.agg [(.int .i64 a.kind), (.str a.name), (.int .i64 a.op), (.str a.evr), (.row 5 a.args.length (depAt a.args))]), (.fp (.agg [(.fp (A3 st))])), (.fp (.agg [(Af s)]))] (.bool q) := by
 refine A4 [.tmp 4] Tryz.func126 rfl Tryz.ntmps126 rfl rfl (fun B F hF => ?_)
 refine Ah [] [1, 2, 3] [(1, 3)] hk0 v0 c0 ?_
 refine Ah [] [4] [] (hk 3 Lt h <| hk0) v0 c0 ?_
 refine Ag ?_
 refine RK wR [(.bool q)] ?_
 exact Same.of_eq (by first | rfl | (simp only [Ak]; simp_all))
theorem Q7m (m : Int → Int → List UInt8 → Int → List UInt8 → Bool × Int) (hM : H1 m) (st : PoolT) (hi : IdxOk st) (s : List Int) (hs : s.length ≤ 4611686018427387904) (n : Nat) (d : DepT) (hd : d.size ≤ 4194304) (hn : d.size ≤ n + 1) (hw : woB (n + 1) d = true) (ih : ∀ i, i < d.args.length → FnV Tryz.prog 60 [(.fp (A3 st)), (.agg [(.int .i64 ((nth d.args i).kind)), (.str ((nth d.args i).name)), (.int .i64 ((nth d.args i).op)), (.str ((nth d.args i).evr)), (.row 5 (nth d.args i).args.length (depAt (nth d.args i).args))]), Af s] (.bool (Cl m st s n (nth d.args i)))) :
  FnV Tryz.prog 60 [(.fp (A3 st)), (.agg [(.int .i64 d.kind), (.str d.name), (.int .i64 d.op), (.str d.evr), (.row 5 d.args.length (depAt d.args))]), (Af s)] (.bool (Cl m st s (n + 1) d)) := by
 have hda := Ep d
 have hal := Dr d.args
 refine A4 [.tmp 6] Tryz.func60 rfl Tryz.ntmps60 rfl rfl (fun B F hF => ?_)
 refine Ad ?_
 refine Ap ?_
 refine Fu 1 (.agg [(.int .i64 d.kind), (.str d.name), (.int .i64 d.op), (.str d.evr), (Ac 5 Al d.args)]) (by kernel_rfl) (X1u d) ?_
 refine Av 0 [] [3, 4, 5] [(2, 4)] hk0 v0 c0 ?_
 refine Aa [] [3, 4, 5, 7] ?_
 refine Ad ?_
 refine Aa [] [3, 4, 5, 7, 10] ?_
 refine A1 ?_
 refine Aa [] [3, 4, 5, 7, 10, 11] ?_
 refine A6 (p := d.kind = 2) (by kernel_rfl) (fun c1 => ?_) (fun c1 => ?_)
 ·refine Ad ?_
  refine Ap ?_
  refine Bq 3 0 [] [14, 15] [] hk0 v0 c0 ?_
  refine Iu (s' := [(14, (Ac 5 Al d.args)), (15, (.fn 125 [] [(.ptr 0 0), (.ptr 2 0)])), (16, (.bool (d.args.any fun a => !Cl m st s n a)))]) (al := [(Ac 5 Al d.args), (.fn 125 [] [(.ptr 0 0), (.ptr 2 0)])]) (al' := [(Ac 5 Al d.args), (.fn 125 [] [(.fp (.agg [(.fp (A3 st))])), (.fp (.agg [(Af s)]))])]) (h' := []) (r := (.bool (d.args.any fun a => !Cl m st s n a))) (by kernel_rfl) (by exact Pm) (by kernel_rfl) (by kernel_rfl) ((Px d.args (.fn 125 [] [.fp (.agg [.fp (A3 st)]), .fp (.agg [Af s])]) (fun a => !Cl m st s n a) (by omega) (fun i hj => FunV.of (by exact X08) (Q7u st s (nth d.args i) (Cl m st s n (nth d.args i)) (ih i hj)))).of_args (ImpL.cons Imp.refl (ImpL.cons (Imp.clo (by kernel_rfl)) ImpL.nil))) rfl (by kernel_rfl) ?_
  refine Av 4 [] [6] [] hk0 v0 c0 ?_
  refine Ag ?_
  refine RK wR [(.bool (!(d.args.any fun a => !Cl m st s n a)))] ?_
  exact Same.of_eq (by simp only [Ak]; rw [Q7s (by assumption)])
 ·refine Aa [] [3, 4, 5, 10, 18] ?_
  refine A6 (p := d.kind = 3) (by kernel_rfl) (fun c2 => ?_) (fun c2 => ?_)
  ·refine Ad ?_
   refine Ap ?_
   refine Bq 3 0 [] [21, 22] [] hk0 v0 c0 ?_
   refine Iu (s' := [(21, (Ac 5 Al d.args)), (22, (.fn 126 [] [(.ptr 0 0), (.ptr 2 0)])), (23, (.bool (d.args.any fun a => Cl m st s n a)))]) (al := [(Ac 5 Al d.args), (.fn 126 [] [(.ptr 0 0), (.ptr 2 0)])]) (al' := [(Ac 5 Al d.args), (.fn 126 [] [(.fp (.agg [(.fp (A3 st))])), (.fp (.agg [(Af s)]))])]) (h' := []) (r := (.bool (d.args.any fun a => Cl m st s n a))) (by kernel_rfl) (by exact Pm) (by kernel_rfl) (by kernel_rfl) ((Px d.args (.fn 126 [] [.fp (.agg [.fp (A3 st)]), .fp (.agg [Af s])]) (fun a => Cl m st s n a) (by omega) (fun i hj => FunV.of (by exact X07) (Q7t st s (nth d.args i) (Cl m st s n (nth d.args i)) (ih i hj)))).of_args (ImpL.cons Imp.refl (ImpL.cons (Imp.clo (by kernel_rfl)) ImpL.nil))) rfl (by kernel_rfl) ?_
   refine Av 4 [] [6] [] hk0 v0 c0 ?_
   refine Ag ?_
   refine RK wR [(.bool (d.args.any fun a => Cl m st s n a))] ?_
   exact Same.of_eq (by simp only [Ak]; rw [Q7q (by assumption)])
  ·refine Aa [] [3, 4, 5, 24] ?_
   refine A6 (p := d.kind = 4) (by kernel_rfl) (fun c3 => ?_) (fun c3 => ?_)
   ·have h2 := Ur hw (.inr c3)
    refine Ad ?_
    refine Cq [] [3, 4, 5, 32] [] (hk 6 Lt (ih 1 (by omega)) <| hk0) v0 (cc 3 (p := (0 ≤ (1 : Int) ∧ 1 < d.args.length)) (by omega) <| c0) ?_
    refine Bd (q := Cl m st s n (nth d.args 1)) (by kernel_rfl) (fun c4 => ?_) (fun c4 => ?_)
    ·try simp only [Ao] at c4
     refine Cq [] [6] [] (hk 6 Lt (ih 0 (by omega)) <| hk0) v0 (cc 3 (p := (0 ≤ (0 : Int) ∧ 0 < d.args.length)) (by omega) <| c0) ?_
     refine Ag ?_
     refine RK wR [(.bool (Cl m st s n (nth d.args 0)))] ?_
     exact Same.of_eq (by simp only [Ak]; rw [X3 (by assumption), if_pos (by assumption)])
    ·try simp only [Ao] at c4
     refine Ai ?_
     refine Cq (CS := [(7, ((!(decide ((d.args.length : Int) < 3))) = true → (!(decide ((d.args.length : Int) < 3))) = true)), (8, ((!(decide ((d.args.length : Int) < 3))) = true → ((!(decide ((d.args.length : Int) < 3))) = true) ∧ (0 ≤ (2 : Int) ∧ 2 < d.args.length))), (9, ((!(decide ((d.args.length : Int) < 3))) = true → (!(decide ((d.args.length : Int) < 3))) = true)), (11, (!(decide ((d.args.length : Int) < 3))) = true → (!(decide ((d.args.length : Int) < 3))) = true ∧ (!(decide ((d.args.length : Int) < 3))) = true ∧ (!(decide ((d.args.length : Int) < 3))) = true), (12, ((decide ((d.args.length : Int) < 3)) = false → (!(decide ((d.args.length : Int) < 3))) = true))]) [45, 46, 47, 48, 49, 50] [6] [] (hkg 11 (!(decide ((d.args.length : Int) < 3))) Lt (fun cg => ih 2 (by simp at cg; omega)) <| hk0) v0 (by refine cc _ ?_ <| cc _ ?_ <| cc _ ?_ <| cc _ ?_ <| cc _ ?_ c0 <;> first | omega | (simp; omega) | (simp; done) | (intros; simp_all; omega) | (intros; simp_all; done)) ?_
     refine Ag ?_
     refine RK wR [(.bool ((decide ((d.args.length : Int) < 3)) || (Cl m st s n (nth d.args 2))))] ?_
     exact Same.of_eq (by simp only [Ak]; rw [X3 (by assumption), if_neg (by simp_all)])
   ·refine Ai ?_
    refine Cq [] [6] [] (hk 3 (al := [(.fp (A3 st)), (.agg [(.int .i64 d.kind), (.str d.name), (.int .i64 d.op), (.str d.evr), (Ac 5 Al d.args)])]) Z2 ((X3b m hM st hi (n + 1) d hn hd).of_args (ImpL.cons Imp.refl (ImpL.cons (Q04 d) ImpL.nil))) <| hk 4 Pp (Pb s (B6 m st (n + 1) d) (fun id => Dm m st (n + 1) d id) hs (fun i hj => X3d m hM st hi (nth s i) (n + 1) d hn hd hw)) <| hk0) v0 c0 ?_
    refine Ag ?_
    refine RK wR [(.bool (s.any fun id => Dm m st (n + 1) d id))] ?_
    exact Same.of_eq (by simp only [Ak]; rw [Q7r (by assumption) (by assumption) (by assumption)])
theorem Q7n (m : Int → Int → List UInt8 → Int → List UInt8 → Bool × Int) (hM : H1 m) (st : PoolT) (hi : IdxOk st) (s : List Int) (hs : s.length ≤ 4611686018427387904) : ∀ (n : Nat) (d : DepT), d.size ≤ n → d.size ≤ 4194304 → woB n d = true → FnV Tryz.prog 60 [(.fp (A3 st)), (.agg [(.int .i64 (d.kind)), (.str (d.name)), (.int .i64 (d.op)), (.str (d.evr)), (.row 5 d.args.length (depAt d.args))]), Af s] (.bool (Cl m st s n d)) := by
 intro n
 induction n with
 | zero => intro d h; have := Ep d; omega
 | succ n ih => exact fun d h hd hw => Q7m m hM st hi s hs n d hd h hw fun i hj => ih _ (by have h1 := Gj hj; omega) (by have h1 := Gj hj; omega) (Us hw hj)
end Sv
end Go.Proofs.YtlmloohlmlahfaaGreatDoor
end
section
namespace Go.Proofs.YtlmloohlmlahfaaGreatDoor
open Go Go.RowKit
namespace Sv
attribute [local irreducible] SW SO Bn
set_option maxHeartbeats 1000000
set_option maxRecDepth 100000
theorem Z3 : Au Tryz.prog 52 := Ay Tryz.func52 (by kernel_rfl) rfl
theorem X00 : Au Tryz.prog 15 := Ay Tryz.func15 (by kernel_rfl) rfl
theorem Q9y : Au Tryz.prog 57 := Ay Tryz.func57 (by kernel_rfl) rfl
theorem Q9x : Au Tryz.prog 59 := Ay Tryz.func59 (by kernel_rfl) rfl
theorem Q3u : ∀ (n : Nat) (d : DepT), C5 d = true → woB n d = true := by
 intro n
 induction n with
 | zero => exact fun _ _ => rfl
 | succ n ih =>
  intro d h
  obtain ⟨k, nm, op, ev, args⟩ := d
  have all : ∀ (k : Int) (l : List DepT), argsForm k l = true → l.all (woB n) = true := by
   intro k l
   induction l with
   | nil => exact fun _ => rfl
   | cons a l ihl =>
    intro q
    simp only [argsForm, Bool.and_eq_true] at q
    rw [List.all_cons, ih a q.2.1, ihl q.2.2]; rfl
  unfold C5 at h
  unfold woB
  by_cases hk : k = 1
  ·rw [if_pos hk] at h
   have h0 : args.length = 0 := by
    by_cases q : Bp nm = true ∧ 0 ≤ op ∧ op ≤ 7 ∧ args.length = 0
    ·exact q.2.2.2
    ·rw [Zh q] at h; cases h
   obtain rfl := List.length_eq_zero_iff.1 h0
   subst hk
   rfl
  ·rw [if_neg hk] at h
   simp only [Bool.and_eq_true, Bool.not_eq_true', Gs, decide_eq_false_iff_not] at h
   have h2 : 2 ≤ args.length := by
    have := h.1
    simp only [not_or] at this
    omega
   show ((!(decide (k = 6) || decide (k = 4)) || decide (2 ≤ args.length)) && args.all (woB n)) = true
   rw [decide_eq_true h2, Bool.or_true, all k args h.2]; rfl
theorem X2e {d : DepT} (h : Cp d = 0) : C5 d = true := by
 unfold Cp at h
 cases hq : C5 d with
 | true => rfl
 | false => rw [hq] at h; simp at h
def Es (d : DepT) (q : Bool) : Int := if Cp d = 0 then (if q = true then 0 else 70) else Cp d
def C2 (m : Int → Int → List UInt8 → Int → List UInt8 → Bool × Int) (st : PoolT) (d : DepT) (s : List Int) : Bool × Int :=
 if Cp d = 0 then (if s.any (fun id => decide (id < 0) || decide ((st.all.length : Int) ≤ id)) = true then (false, 69) else (Cl m st s d.size d, 0)) else (false, Cp d)
theorem Vy (st : PoolT) (d : DepT) (a : AV) (q : Bool) (hd : d.size ≤ 4194304) (ha : FunV Tryz.prog a [.int .i64 d.kind] (.bool q)) :
  FnV Tryz.prog 52 [(.fp (A3 st)), (.agg [(.int .i64 d.kind), (.str d.name), (.int .i64 d.op), (.str d.evr), (.row 5 d.args.length (depAt d.args))]), (.clo a)] (.int .i64 (Es d q)) := by
 refine A4 [.tmp 6] Tryz.func52 rfl Tryz.ntmps52 rfl rfl (fun B F hF => ?_)
 refine Ah [] [0, 2, 4] [(1, 4)] hk0 v0 c0 ?_
 refine Ad ?_
 refine Aa [] [2, 4, 9] ?_
 refine Ei (by kernel_rfl) ?_
 refine Ai ?_
 refine Ad ?_
 refine Ah [] [2, 4, 7] [] (hk 1 Sy (Q3l d hd) <| hk0) v0 c0 ?_
 refine Aa [] [2, 4, 7, 13] ?_
 refine Da (p := (Cp d) = 0) (by kernel_rfl) (fun c1 => ?_) (fun c1 => ?_)
 ·refine Aa [] [6] ?_
  refine Ag ?_
  refine RK wR [(.int .i64 (Cp d))] ?_
  exact Same.of_eq (by simp only [Ak]; unfold Es; rw [if_neg (by assumption)])
 ·refine Ai ?_
  refine Ad ?_
  refine Ad ?_
  refine Ap ?_
  refine Bq 3 0 [] [15, 17] [] hk0 v0 c0 ?_
  refine Fd (s' := [(15, (.clo a)), (17, (.int .i64 d.kind)), (18, (.bool q))]) (a := (.clo a)) (al := [(.int .i64 d.kind)]) (r := (.bool q)) (by kernel_rfl) (by kernel_rfl) (by kernel_rfl) (by kernel_rfl) (by kernel_rfl) ha.clo (by kernel_rfl) ?_
  refine Av 4 [] [19] [] hk0 v0 c0 ?_
  refine Bd (q := !q) (by kernel_rfl) (fun c2 => ?_) (fun c2 => ?_)
  ·try simp only [Ao] at c2
   refine Aa [] [6] ?_
   refine Ag ?_
   refine RK wR [(.int .i64 70)] ?_
   exact Same.of_eq (by simp only [Ak]; unfold Es; rw [if_pos (by omega), if_neg (by simp_all)])
  ·try simp only [Ao] at c2
   refine Ai ?_
   refine Aa [] [6] ?_
   refine Ag ?_
   refine RK wR [(.int .i64 0)] ?_
   exact Same.of_eq (by simp only [Ak]; unfold Es; rw [if_pos (by omega), if_pos (by simp_all)])
theorem Q7o (k : Int) :
  FnV Tryz.prog 57 [(.int .i64 k)] (.bool true) := by
 refine A4 [.tmp 2] Tryz.func57 rfl Tryz.ntmps57 rfl rfl (fun B F hF => ?_)
 refine Aa [] [] ?_
 refine Aa [] [2] ?_
 refine Ag ?_
 refine RK wR [(.bool true)] ?_
 exact Same.of_eq (by first | rfl | (simp only [Ak]; simp_all))
theorem Q7p (st : PoolT) (id : Int) :
  FnV Tryz.prog 59 [(.int .i64 id), (.fp (.agg [(.fp (A3 st))]))] (.bool (decide (id < 0) || decide ((st.all.length : Int) ≤ id))) := by
 refine A4 [.tmp 3] Tryz.func59 rfl Tryz.ntmps59 rfl rfl (fun B F hF => ?_)
 refine Aa [] [0, 1] ?_
 obtain ⟨b1, hb1⟩ : ∃ b, b = (decide (id < 0)) := ⟨_, rfl⟩
 refine Ah (CS := [(5, ((!b1) = true → (!b1) = true)), (6, ((!b1) = true → (!b1) = true)), (7, ((!b1) = true → (!b1) = true)), (8, ((!b1) = true → (!b1) = true ∧ (!b1) = true)), (9, (b1 = false → (!b1) = true))]) [7, 8, 9, 10, 11, 12] [3] [] hk0 (vk 3 6 (a := .bool (decide (id < 0))) (b := .bool b1) (Imp.of_eq (by rw [hb1])) <| v0) (by refine cc _ ?_ <| cc _ ?_ <| cc _ ?_ <| cc _ ?_ <| cc _ ?_ c0 <;> simp) ?_
 refine Ag ?_
 refine RK wR [(.bool (b1 || (decide ((st.all.length : Int) ≤ id))))] ?_
 subst hb1
 exact Same.of_eq (by first | rfl | (simp only [Ak]; simp_all))
theorem X44 (m : Int → Int → List UInt8 → Int → List UInt8 → Bool × Int) (hM : H1 m) (st : PoolT) (hi : IdxOk st) (d : DepT) (s : List Int) (hd : d.size ≤ 4194304) (hs : s.length ≤ 4611686018427387904) :
  FnV Tryz.prog 15 [(.fp (A3 st)), (.agg [(.int .i64 d.kind), (.str d.name), (.int .i64 d.op), (.str d.evr), (.row 5 d.args.length (depAt d.args))]), (Af s)] (.tup [.bool (C2 m st d s).1, .int .i64 (C2 m st d s).2]) := by
 refine A4 [.tmp 6, .tmp 7] Tryz.func15 rfl Tryz.ntmps15 rfl rfl (fun B F hF => ?_)
 refine Ah [] [2, 3, 4] [(2, 4)] hk0 v0 c0 ?_
 refine Ad ?_
 refine Ah [] [2, 3, 4, 8] [] (hk 2 (al := [(.fp (A3 st)), (.agg [(.int .i64 d.kind), (.str d.name), (.int .i64 d.op), (.str d.evr), (.row 5 d.args.length (depAt d.args))]), (.fn 57 [] [])]) Z3 ((Vy st d (.fn 57 [] []) true hd (FunV.of (by exact Q9y) (Q7o d.kind))).of_args (ImpL.cons Imp.refl (ImpL.cons Imp.refl (ImpL.cons (Imp.clo rfl) ImpL.nil)))) <| hk0) v0 c0 ?_
 refine Aa [] [2, 3, 4, 8, 13] ?_
 refine Da (p := (Es d true) = 0) (by kernel_rfl) (fun c1 => ?_) (fun c1 => ?_)
 ·refine Aa [] [6, 7] ?_
  refine Ag ?_
  refine RK wR [(.bool false), (.int .i64 (Es d true))] ?_
  have hc : ¬ Cp d = 0 := by
   intro q
   have hr : Es d true = 0 := by unfold Es; rw [if_pos q, if_pos rfl]
   omega
  exact Same.of_eq (by simp only [Ak]; unfold C2 Es; rw [if_neg hc, if_neg hc])
 ·have hc0 : Cp d = 0 := by
   by_cases q : Cp d = 0
   ·exact q
   ·have hr : Es d true = Cp d := by unfold Es; rw [if_neg q]
    omega
  refine Ai ?_
  refine Ad ?_
  refine Ad ?_
  refine Ap ?_
  refine Bq 2 0 [] [2, 3, 4, 15, 16] [] hk0 v0 c0 ?_
  refine Iu (s' := [(2, (Af s)), (3, (.ptr 0 0)), (4, (.fp (.agg [(.int .i64 d.kind), (.str d.name), (.int .i64 d.op), (.str d.evr), (.row 5 d.args.length (depAt d.args))]))), (15, (Af s)), (16, (.fn 59 [] [(.ptr 0 0)])), (17, (.bool (s.any fun id => decide (id < 0) || decide ((st.all.length : Int) ≤ id))))]) (al := [(Af s), (.fn 59 [] [(.ptr 0 0)])]) (al' := [(Af s), (.fn 59 [] [(.fp (.agg [(.fp (A3 st))]))])]) (h' := []) (r := (.bool (s.any fun id => decide (id < 0) || decide ((st.all.length : Int) ≤ id)))) (by kernel_rfl) (by exact Pp) (by kernel_rfl) (by kernel_rfl) ((Pb s (.fn 59 [] [.fp (.agg [.fp (A3 st)])]) (fun id => decide (id < 0) || decide ((st.all.length : Int) ≤ id)) hs (fun i hj => FunV.of (by exact Q9x) (Q7p st (nth s i)))).of_args (ImpL.cons Imp.refl (ImpL.cons (Imp.clo (by kernel_rfl)) ImpL.nil))) rfl (by kernel_rfl) ?_
  refine Bx ?_
  refine Bd (q := s.any fun id => decide (id < 0) || decide ((st.all.length : Int) ≤ id)) (by kernel_rfl) (fun c2 => ?_) (fun c2 => ?_)
  ·try simp only [Ao] at c2
   refine Aa [] [6, 7] ?_
   refine Ag ?_
   refine RK wR [(.bool false), (.int .i64 69)] ?_
   exact Same.of_eq (by simp only [Ak]; unfold C2; rw [if_pos hc0, if_pos (by assumption)])
  ·try simp only [Ao] at c2
   refine Ai ?_
   refine Ah [] [6, 7] [] (hk 3 Lt (Q7n m hM st hi s hs d.size d (Nat.le_refl _) hd (Q3u _ _ (X2e hc0))) <| hk0) v0 c0 ?_
   refine Ag ?_
   refine RK wR [(.bool (Cl m st s d.size d)), (.int .i64 0)] ?_
   exact Same.of_eq (by simp only [Ak]; unfold C2; rw [if_pos hc0, if_neg (by simp_all)])
end Sv
end Go.Proofs.YtlmloohlmlahfaaGreatDoor
end
section
namespace Go.Proofs.YtlmloohlmlahfaaGreatDoor
open Go Go.RowKit
namespace Sv
attribute [local irreducible] SW SO Bn
set_option maxHeartbeats 1000000
set_option maxRecDepth 100000
theorem X03 : Au Tryz.prog 14 := Ay Tryz.func14 (by kernel_rfl) rfl
theorem Q9z : Au Tryz.prog 55 := Ay Tryz.func55 (by kernel_rfl) rfl
def Et (m : Int → Int → List UInt8 → Int → List UInt8 → Bool × Int) (st : PoolT) (d : DepT) : List Int × Int := if Es d (decide (d.kind = 1)) = 0 then (G3 m st d true, 0) else ([], Es d (decide (d.kind = 1)))
theorem Q60 (k : Int) :
  FnV Tryz.prog 55 [(.int .i64 k)] (.bool (decide (k = 1))) := by
 refine A4 [.tmp 2] Tryz.func55 rfl Tryz.ntmps55 rfl rfl (fun B F hF => ?_)
 refine Aa [] [0] ?_
 refine Aa [] [2] ?_
 refine Ag ?_
 refine RK wR [(.bool (decide (k = 1)))] ?_
 exact Same.of_eq (by first | rfl | (simp only [Ak]; simp_all))
theorem X43 (m : Int → Int → List UInt8 → Int → List UInt8 → Bool × Int) (hM : H1 m) (st : PoolT) (hi : IdxOk st) (d : DepT) (hd : d.size ≤ 4194304) :
  FnV Tryz.prog 14 [(.fp (A3 st)), (.agg [(.int .i64 d.kind), (.str d.name), (.int .i64 d.op), (.str d.evr), (.row 5 d.args.length (depAt d.args))])] (.tup [Af (Et m st d).1, .int .i64 (Et m st d).2]) := by
 refine A4 [.tmp 4, .tmp 5] Tryz.func14 rfl Tryz.ntmps14 rfl rfl (fun B F hF => ?_)
 refine Ah [] [0, 3] [(1, 3)] hk0 v0 c0 ?_
 refine Ad ?_
 refine Ah [] [0, 3, 6] [] (hk 2 (al := [(.fp (A3 st)), (.agg [(.int .i64 d.kind), (.str d.name), (.int .i64 d.op), (.str d.evr), (.row 5 d.args.length (depAt d.args))]), (.fn 55 [] [])]) Z3 ((Vy st d (.fn 55 [] []) (decide (d.kind = 1)) hd (FunV.of (by exact Q9z) (Q60 d.kind))).of_args (ImpL.cons Imp.refl (ImpL.cons Imp.refl (ImpL.cons (Imp.clo rfl) ImpL.nil)))) <| hk0) v0 c0 ?_
 refine Aa [] [0, 3, 6, 11] ?_
 refine Da (p := (Es d (decide (d.kind = 1))) = 0) (by kernel_rfl) (fun c1 => ?_) (fun c1 => ?_)
 ·refine Aa [] [4, 5] ?_
  refine Ag ?_
  refine RK wR [.nils, (.int .i64 (Es d (decide (d.kind = 1))))] ?_
  simp only [Ak]
  rw [show Et m st d = ([], Es d (decide (d.kind = 1))) from by unfold Et; rw [if_neg (by assumption)]]
  exact (Imp.tups (ImpL.cons Imp.nil (ImpL.cons Imp.refl ImpL.nil))).same
 ·refine Ai ?_
  refine Ah [] [4, 5] [] (hk 2 Z1 (Xw m hM st hi d true hd) <| hk0) v0 c0 ?_
  refine Ag ?_
  refine RK wR [(Af (G3 m st d true)), (.int .i64 0)] ?_
  exact Same.of_eq (by simp only [Ak]; unfold Et; rw [if_pos (by omega)])
end Sv
end Go.Proofs.YtlmloohlmlahfaaGreatDoor
end
section
namespace Go.Proofs.YtlmloohlmlahfaaGreatDoor
open Go Go.RowKit
namespace Sv
attribute [local irreducible] SW SO Bn
set_option maxHeartbeats 1000000
set_option maxRecDepth 100000
theorem S7 : Au Tryz.prog 213 := Ay Tryz.func213 (by kernel_rfl) rfl
theorem Pr : Au Tryz.prog 142 := Ay Tryz.func142 (by kernel_rfl) rfl
theorem Q0c : Au Tryz.prog 239 := Ay Tryz.func239 (by kernel_rfl) rfl
theorem Ta : Au Tryz.prog 145 := Ay Tryz.func145 (by kernel_rfl) rfl
theorem Q0g : Au Tryz.prog 214 := Ay Tryz.func214 (by kernel_rfl) rfl
theorem S8 : Au Tryz.prog 177 := Ay Tryz.func177 (by kernel_rfl) rfl
theorem Q0k : Au Tryz.prog 178 := Ay Tryz.func178 (by kernel_rfl) rfl
def Gd (a b : Int) : Int := if a < b then -1 else if b < a then 1 else 0
def orI (a b : Int) : Int := if a = 0 then b else a
def Dz (a b : List UInt8) : Int := orI (Gd ((Lib.trimLeftB a 48).length : Int) ((Lib.trimLeftB b 48).length : Int)) (Lib.compareBytes (Lib.trimLeftB a 48) (Lib.trimLeftB b 48))
theorem Uu {s : List UInt8} (h : Dh s ≠ 0) : 1 ≤ s.length := by
 cases s with
 | nil => exact absurd (by unfold Dh; rw [if_pos (.inl rfl)]) h
 | cons a r => simp
theorem Nz {s : List UInt8} (h : Dh s = 0) : s.length = 0 ∨ 1 ≤ A8 Bh s := by
 cases s with
 | nil => exact .inl rfl
 | cons a r =>
  right
  unfold Dh at h
  have hb : Aq (a :: r) 0 = a := by simp [Aq]
  rw [hb] at h
  by_cases hd : Bh a = true
  ·unfold A8; rw [List.takeWhile_cons, hd]; simp
  ·rw [if_neg (by simp [hd])] at h
   split at h
   ·omega
   ·split at h
    ·rename_i hl
     have : a.toNat = 0 := by omega
     unfold B4 at hl; rw [this] at hl; simp at hl
    ·omega
theorem Q00 {s : List UInt8} {i : Nat} (h : ¬ s.drop i = []) : 1 ≤ s.length - i := by
 have := List.length_pos_iff.2 h
 rw [List.length_drop] at this; exact this
def Ga : Nat → List UInt8 → List UInt8 → Int
 | 0, _, _ => 0
 | n + 1, a, b =>
  if Dh a ≠ 0 ∨ Dh b ≠ 0 then (if Dh a ≠ Dh b then Gd (Dh a) (Dh b) else Ga n (a.drop 1) (b.drop 1))
  else if Dz (a.take (A8 Bh a)) (b.take (A8 Bh b)) ≠ 0 then Dz (a.take (A8 Bh a)) (b.take (A8 Bh b))
  else if a.drop (A8 Bh a) ≠ [] ∨ b.drop (A8 Bh b) ≠ [] then Ga n (a.drop (A8 Bh a)) (b.drop (A8 Bh b)) else 0
theorem Yp (x : Int) :
  FnV Tryz.prog 239 [(.int .i64 x)] (.bool false) := by
 refine A4 [.tmp 2] Tryz.func239 rfl Tryz.ntmps239 rfl rfl (fun B F hF => ?_)
 refine Aa [] [0] ?_
 refine Aa [] [2] ?_
 refine Ag ?_
 refine RK wR [(.bool (!decide (x = x)))] ?_
 exact Same.of_eq (by simp only [Ak]; simp)
theorem Tq (x y : Int) :
  FnV Tryz.prog 213 [(.int .i64 x), (.int .i64 y)] (.int .i64 (Gd x y)) := by
 refine A4 [.tmp 4] Tryz.func213 rfl Tryz.ntmps213 rfl rfl (fun B F hF => ?_)
 refine Aa [] [0, 1] ?_
 refine Ah [] [0, 1, 5] [] (hk 1 Q0c (Yp x) <| hk0) v0 c0 ?_
 refine Ah [] [0, 1, 5, 6] [] (hk 1 Q0c (Yp y) <| hk0) v0 c0 ?_
 refine Ad ?_
 refine Aa [] [0, 1, 6, 11] ?_
 refine Ei (by kernel_rfl) ?_
 refine Ai ?_
 refine Ad ?_
 refine Aa [] [0, 1, 13] ?_
 refine Ei (by kernel_rfl) ?_
 refine Ai ?_
 refine Ad ?_
 refine Aa [] [0, 1, 16] ?_
 refine A6 (p := x < y) (by kernel_rfl) (fun c1 => ?_) (fun c1 => ?_)
 ·refine Aa [] [4] ?_
  refine Ag ?_
  refine RK wR [(.int .i64 (-1))] ?_
  exact Same.of_eq (by simp only [Ak]; unfold Gd; rw [if_pos (by assumption)])
 ·refine Ai ?_
  refine Ad ?_
  refine Aa [] [19] ?_
  refine A6 (p := y < x) (by kernel_rfl) (fun c2 => ?_) (fun c2 => ?_)
  ·refine Aa [] [4] ?_
   refine Ag ?_
   refine RK wR [(.int .i64 1)] ?_
   exact Same.of_eq (by simp only [Ak]; unfold Gd; rw [if_neg (by assumption), if_pos (by assumption)])
  ·refine Ai ?_
   refine Aa [] [4] ?_
   refine Ag ?_
   refine RK wR [(.int .i64 0)] ?_
   exact Same.of_eq (by simp only [Ak]; unfold Gd; rw [if_neg (by assumption), if_neg (by assumption)])
theorem Ox (x y : Int) :
  FnV Tryz.prog 142 [(Af [x, y])] (.int .i64 (orI x y)) := by
 refine A4 [.tmp 2] Tryz.func142 rfl Tryz.ntmps142 rfl rfl (fun B F hF => ?_)
 refine Aa [] [0] ?_
 refine Aa [] [0, 3] ?_
 refine Ad ?_
 refine Aa [] [3, 6, 7, 8] ?_
 refine A1 ?_
 refine Qf 3 ?_
 refine Fc ?_
 refine Aa [] [3, 6, 7, 8, 9] ?_
 refine Ad ?_
 refine Gh (by kernel_rfl) ?_
 refine Ai ?_
 refine Ad ?_
 refine A1 ?_
 refine Ah [] [3, 5, 6, 7, 8] [] hk0 v0 (cc 0 (p := (0 ≤ (0 : Int) ∧ 0 < 2)) (by omega) <| c0) ?_
 refine Aa [] [3, 5, 6, 7, 8, 14] ?_
 refine Da (p := x = 0) (by kernel_rfl) (fun c1 => ?_) (fun c1 => ?_)
 ·refine Aa [] [2] ?_
  refine Ag ?_
  refine RK wR [(.int .i64 x)] ?_
  exact Same.of_eq (by simp only [Ak]; unfold orI; rw [if_neg (by assumption)])
 ·refine Ai ?_
  refine Ap ?_
  refine Av 0 [] [3, 6, 7, 8] [] hk0 v0 (cc 0 (p := (-9223372036854775808 ≤ (1 : Int) ∧ (1 : Int) ≤ 9223372036854775807)) (by omega) <| c0) ?_
  refine Fc ?_
  refine Aa [] [3, 6, 7, 8, 9] ?_
  refine Ad ?_
  refine Gh (by kernel_rfl) ?_
  refine Ai ?_
  refine Ad ?_
  refine A1 ?_
  refine Ah [] [3, 5, 6, 7, 8] [] hk0 v0 (cc 0 (p := (0 ≤ (1 : Int) ∧ 1 < 2)) (by omega) <| c0) ?_
  refine Aa [] [3, 5, 6, 7, 8, 14] ?_
  refine Da (p := y = 0) (by kernel_rfl) (fun c2 => ?_) (fun c2 => ?_)
  ·refine Aa [] [2] ?_
   refine Ag ?_
   refine RK wR [(.int .i64 y)] ?_
   exact Same.of_eq (by simp only [Ak]; unfold orI; rw [if_pos (by simp_all)] <;> rfl)
  ·refine Ai ?_
   refine Ap ?_
   refine Av 0 [] [3, 6, 7, 8] [] hk0 v0 (cc 0 (p := (-9223372036854775808 ≤ (2 : Int) ∧ (2 : Int) ≤ 9223372036854775807)) (by omega) <| c0) ?_
   refine Fc ?_
   refine Aa [] [3, 6, 7, 8, 9] ?_
   refine Ad ?_
   refine Ei (by kernel_rfl) ?_
   refine Br ?_
   refine Aa [] [2] ?_
   refine Ag ?_
   refine RK wR [(.int .i64 0)] ?_
   exact Same.of_eq (by simp only [Ak]; unfold orI; rw [if_pos (by simp_all)] <;> simp_all)
theorem Ru (a b : List UInt8) :
  FnV Tryz.prog 177 [(.str a), (.str b)] (.int .i64 (Dz a b)) := by
 refine A4 [.tmp 4] Tryz.func177 rfl Tryz.ntmps177 rfl rfl (fun B F hF => ?_)
 refine Aa [] [0, 1] ?_
 refine Ah [] [0, 1] [] (hk 1 Ta (Q2y a 48 (by decide)) <| hk 3 Ta (Q2y b 48 (by decide)) <| hk0) v0 c0 ?_
 refine Ah [] [4] [(9, 17)] (hk 4 S7 (Tq ((Lib.trimLeftB a 48).length : Int) ((Lib.trimLeftB b 48).length : Int)) <| hk 7 Q0g (Q3k (Lib.trimLeftB a 48) (Lib.trimLeftB b 48)) <| hk 9 Pr (Ox (Gd ((Lib.trimLeftB a 48).length : Int) ((Lib.trimLeftB b 48).length : Int)) (Lib.compareBytes (Lib.trimLeftB a 48) (Lib.trimLeftB b 48))) <| hk0) (vk 9 17 (b := (Af [Gd ((Lib.trimLeftB a 48).length : Int) ((Lib.trimLeftB b 48).length : Int), Lib.compareBytes (Lib.trimLeftB a 48) (Lib.trimLeftB b 48)])) (Imp.list (f := AV.int .i64) rfl) <| v0) c0 ?_
 refine Ag ?_
 refine RK wR [(.int .i64 (Dz a b))] ?_
 exact Same.of_eq (by first | rfl | (simp only [Ak]; simp_all))
theorem X1z (n : Nat) (a0 b0 : List UInt8) (h0 : a0.length + b0.length < n) (ha : a0.length ≤ 4194304) (hb : b0.length ≤ 4194304) :
  FnV Tryz.prog 178 [(.str a0), (.str b0)] (.int .i64 (Ga n a0 b0)) := by
 refine A4 [.tmp 4] Tryz.func178 rfl Tryz.ntmps178 rfl rfl (fun B F hF => ?_)
 refine Aa [] [0, 1] ?_
 refine T6 0 rfl (fun g y => ∃ (k : Nat) (a : List UInt8) (b : List UInt8), a.length + b.length < k ∧ a.length ≤ 4194304 ∧ b.length ≤ 4194304 ∧ Ga n a0 b0 = Ga k a b ∧ y = ⟨[(0, (.str a)), (1, (.str b))], [], 0⟩ ∧ g = k) [0, 1] 0 (by omega) (fun hJ0 => ?_) ?_
 ·refine Ad ?_
  refine T7 ?_
  refine Qg (y := ⟨[(0, (.str a0)), (1, (.str b0))], [], 0⟩) [0, 1] 0 (by omega) (by kernel_rfl) (hJ0 _ _ ⟨n, a0, b0, (by omega), (by omega), (by omega), (by rfl), (by kernel_rfl), rfl⟩)
 ·rintro g y ⟨k, a, b, fl0_1, fl0_2, fl0_3, fl0_4, rfl, rfl⟩
  have hca := Ii Bh a
  have hcb := Ii Bh b
  refine Ad ?_
  refine Ah [] [0, 1, 5, 6] [] (hk 1 Q0f (Ut a) <| hk 3 Q0f (Ut b) <| hk0) v0 c0 ?_
  obtain ⟨b1, hb1⟩ : ∃ b, b = (!decide ((Dh a) = 0)) := ⟨_, rfl⟩
  refine Ah (CS := [(4, ((!b1) = true → (!b1) = true)), (5, (b1 = false → (!b1) = true))]) [17, 18] [0, 1, 5, 6, 19] [] hk0 (vk 3 16 (a := .bool (!decide ((Dh a) = 0))) (b := .bool b1) (Imp.of_eq (by rw [hb1])) <| v0) (by refine cc _ ?_ <| cc _ ?_ c0 <;> simp) ?_
  refine Bd (q := b1 || (!decide ((Dh b) = 0))) (by kernel_rfl) (fun c1 => ?_) (fun c1 => ?_)
  ·subst hb1
   try simp only [Ao] at c1
   refine Ad ?_
   refine Aa [] [0, 1, 5, 6, 22] ?_
   refine Da (p := (Dh a) = (Dh b)) (by kernel_rfl) (fun c2 => ?_) (fun c2 => ?_)
   ·refine Ah [] [4] [] (hk 2 S7 (Tq (Dh a) (Dh b)) <| hk0) v0 c0 ?_
    refine Ag ?_
    refine RK wR [(.int .i64 (Gd (Dh a) (Dh b)))] ?_
    refine Same.of_eq ?_
    simp only [Ak]
    rw [fl0_4]
    obtain ⟨k, rfl⟩ : ∃ q, g = q + 1 := ⟨g - 1, by omega⟩
    try simp only [List.take_length, List.drop_zero] at *
    unfold Ga
    rw [if_pos (by assumption), if_pos (by assumption)]
   ·have hpa := Uu (s := a) (by omega)
    have hpb := Uu (s := b) (by omega)
    refine Ai ?_
    refine Cq (CS := [(1, (0 ≤ (1 : Int) ∧ (1 : Int) ≤ (a.length : Int) ∧ (a.length : Int) ≤ (a.length : Int))), (3, (0 ≤ (1 : Int) ∧ (1 : Int) ≤ (b.length : Int) ∧ (b.length : Int) ≤ (b.length : Int)))]) [] [0, 1] [] hk0 v0 (by refine cc _ ?_ <| cc _ ?_ c0 <;> omega) ?_
    have hza := fun h => Nz (s := a) h
    have hzb := fun h => Nz (s := b) h
    refine L4 ⟨rfl, _, (by kernel_rfl : gcS _ _ _ = some ⟨[(0, (.str ((a.take a.length).drop 1))), (1, (.str ((b.take b.length).drop 1)))], [], 0⟩), _, ?_, g - 1, ((a.take a.length).drop 1), ((b.take b.length).drop 1), ?_, ?_, ?_, ?_, (by kernel_rfl), rfl⟩
    all_goals (obtain ⟨k, rfl⟩ : ∃ q, g = q + 1 := ⟨g - 1, by omega⟩)
    all_goals try simp only [List.take_length, List.drop_zero, List.length_drop] at *
    all_goals have hdec : a.length = 0 → b.length = 0 → False := fun e1 e2 => by first | omega | (rcases c4 with h | h <;> have := Q00 h <;> omega)
    ·first | omega | (have h1 := hza (by omega); have h2 := hzb (by omega); have h3 : ¬ (a.length = 0 ∧ b.length = 0) := fun e => hdec e.1 e.2; omega)
    ·first | omega | (have h1 := hza (by omega); have h2 := hzb (by omega); have h3 : ¬ (a.length = 0 ∧ b.length = 0) := fun e => hdec e.1 e.2; omega)
    ·omega
    ·omega
    ·rw [fl0_4]
     conv => lhs; unfold Ga
     first | (rw [if_pos (by assumption), if_neg (by omega)]; rfl) | (rw [if_neg (by omega), if_neg (by omega), if_pos (by simp_all)]; rfl)
  ·subst hb1
   try simp only [Ao] at c1
   refine Ai ?_
   refine Ah [] [0, 1, 7, 8] [] (hk 1 (al := [(.str a), (.fn 160 [] [])]) G9 ((Hz a (.fn 160 [] []) Bh (by omega) (fun c => FunV.of (by exact Hw) (Ih c))).of_args (ImpL.cons Imp.refl (ImpL.cons (Imp.clo rfl) ImpL.nil))) <| hk 3 (al := [(.str b), (.fn 160 [] [])]) G9 ((Hz b (.fn 160 [] []) Bh (by omega) (fun c => FunV.of (by exact Hw) (Ih c))).of_args (ImpL.cons Imp.refl (ImpL.cons (Imp.clo rfl) ImpL.nil))) <| hk0) v0 c0 ?_
   refine Ad ?_
   refine Cq (CS := [(2, (0 ≤ (0 : Int) ∧ (0 : Int) ≤ (A8 Bh a : Int) ∧ (A8 Bh a : Int) ≤ (a.length : Int))), (5, (0 ≤ (0 : Int) ∧ (0 : Int) ≤ (A8 Bh b : Int) ∧ (A8 Bh b : Int) ≤ (b.length : Int)))]) [] [0, 1, 7, 8, 9] [] (hk 6 S8 (Ru ((a.take (A8 Bh a)).drop 0) ((b.take (A8 Bh b)).drop 0)) <| hk0) v0 (by refine cc _ ?_ <| cc _ ?_ c0 <;> omega) ?_
   refine Aa [] [0, 1, 7, 8, 9, 42] ?_
   refine Da (p := (Dz ((a.take (A8 Bh a)).drop 0) ((b.take (A8 Bh b)).drop 0)) = 0) (by kernel_rfl) (fun c3 => ?_) (fun c3 => ?_)
   ·refine Aa [] [4] ?_
    refine Ag ?_
    refine RK wR [(.int .i64 (Dz ((a.take (A8 Bh a)).drop 0) ((b.take (A8 Bh b)).drop 0)))] ?_
    refine Same.of_eq ?_
    simp only [Ak]
    rw [fl0_4]
    obtain ⟨k, rfl⟩ : ∃ q, g = q + 1 := ⟨g - 1, by omega⟩
    try simp only [List.take_length, List.drop_zero] at *
    unfold Ga
    rw [if_neg (by omega), if_pos (by assumption)]
   ·refine Ai ?_
    refine Ad ?_
    refine Cq (CS := [(2, (0 ≤ (A8 Bh a : Int) ∧ (A8 Bh a : Int) ≤ (a.length : Int) ∧ (a.length : Int) ≤ (a.length : Int))), (5, (0 ≤ (A8 Bh b : Int) ∧ (A8 Bh b : Int) ≤ (b.length : Int) ∧ (b.length : Int) ≤ (b.length : Int)))]) [] [0, 1] [] hk0 v0 (by refine cc _ ?_ <| cc _ ?_ c0 <;> omega) ?_
    obtain ⟨b2, hb2⟩ : ∃ b, b = (!decide ((a.take a.length).drop (A8 Bh a) = [])) := ⟨_, rfl⟩
    refine Ah (CS := [(4, ((!b2) = true → (!b2) = true)), (5, (b2 = false → (!b2) = true))]) [53, 54] [0, 1, 55] [] hk0 (vk 3 52 (a := .bool (!decide ((a.take a.length).drop (A8 Bh a) = []))) (b := .bool b2) (Imp.of_eq (by rw [hb2])) <| v0) (by refine cc _ ?_ <| cc _ ?_ c0 <;> simp) ?_
    refine Bd (q := b2 || (!decide ((b.take b.length).drop (A8 Bh b) = []))) (by kernel_rfl) (fun c4 => ?_) (fun c4 => ?_)
    ·subst hb2
     try simp only [Ao] at c4
     have hza := fun h => Nz (s := a) h
     have hzb := fun h => Nz (s := b) h
     refine L4 ⟨rfl, _, (by kernel_rfl : gcS _ _ _ = some ⟨[(0, (.str ((a.take a.length).drop (A8 Bh a)))), (1, (.str ((b.take b.length).drop (A8 Bh b))))], [], 0⟩), _, ?_, g - 1, ((a.take a.length).drop (A8 Bh a)), ((b.take b.length).drop (A8 Bh b)), ?_, ?_, ?_, ?_, (by kernel_rfl), rfl⟩
     all_goals (obtain ⟨k, rfl⟩ : ∃ q, g = q + 1 := ⟨g - 1, by omega⟩)
     all_goals try simp only [List.take_length, List.drop_zero, List.length_drop] at *
     all_goals have hdec : a.length = 0 → b.length = 0 → False := fun e1 e2 => by first | omega | (rcases c4 with h | h <;> have := Q00 h <;> omega)
     ·first | omega | (have h1 := hza (by omega); have h2 := hzb (by omega); have h3 : ¬ (a.length = 0 ∧ b.length = 0) := fun e => hdec e.1 e.2; omega)
     ·first | omega | (have h1 := hza (by omega); have h2 := hzb (by omega); have h3 : ¬ (a.length = 0 ∧ b.length = 0) := fun e => hdec e.1 e.2; omega)
     ·omega
     ·omega
     ·rw [fl0_4]
      conv => lhs; unfold Ga
      first | (rw [if_pos (by assumption), if_neg (by omega)]; rfl) | (rw [if_neg (by omega), if_neg (by omega), if_pos (by simp_all)]; rfl)
    ·subst hb2
     try simp only [Ao] at c4
     refine Ai ?_
     refine Aa [] [4] ?_
     refine Ag ?_
     refine RK wR [(.int .i64 0)] ?_
     refine Same.of_eq ?_
     simp only [Ak]
     rw [fl0_4]
     obtain ⟨k, rfl⟩ : ∃ q, g = q + 1 := ⟨g - 1, by omega⟩
     try simp only [List.take_length, List.drop_zero] at *
     unfold Ga
     rw [if_neg (by omega), if_neg (by omega), if_neg (by simp_all)]
end Sv
end Go.Proofs.YtlmloohlmlahfaaGreatDoor
end
section
namespace Go.Proofs.YtlmloohlmlahfaaGreatDoor
open Go Go.RowKit
namespace Sv
attribute [local irreducible] SW SO Bn
set_option maxHeartbeats 1000000
set_option maxRecDepth 100000
theorem Q0j : Au Tryz.prog 179 := Ay Tryz.func179 (by kernel_rfl) rfl
theorem Q0p : Au Tryz.prog 141 := Ay Tryz.func141 (by kernel_rfl) rfl
def orS (x y : List UInt8) : List UInt8 := if x = [] then y else x
def Bi (k : Int) (a b : List UInt8) : (List UInt8 × List UInt8 × List UInt8) × (List UInt8 × List UInt8 × List UInt8) × Int :=
 if k ≠ 1 ∧ k ≠ 2 then (([], [], []), ([], [], []), 1) else if Cc a = 0 then (Co a, Co b, Cc b) else (Co a, ([], [], []), Cc a)
theorem W7 (x y : List UInt8) :
  FnV Tryz.prog 179 [(C3 [x, y])] (.str (orS x y)) := by
 refine A4 [.tmp 2] Tryz.func179 rfl Tryz.ntmps179 rfl rfl (fun B F hF => ?_)
 refine Aa [] [0] ?_
 refine Aa [] [0, 3] ?_
 refine Ad ?_
 refine Aa [] [3, 6, 7, 8] ?_
 refine A1 ?_
 refine Qf 3 ?_
 refine Fc ?_
 refine Aa [] [3, 6, 7, 8, 9] ?_
 refine Ad ?_
 refine Gh (by kernel_rfl) ?_
 refine Ai ?_
 refine Ad ?_
 refine A1 ?_
 refine Ah [] [3, 5, 6, 7, 8] [] hk0 v0 (cc 0 (p := (0 ≤ (0 : Int) ∧ 0 < 2)) (by omega) <| c0) ?_
 refine Aa [] [3, 5, 6, 7, 8, 14] ?_
 refine Da (p := x = []) (by kernel_rfl) (fun c1 => ?_) (fun c1 => ?_)
 ·refine Aa [] [2] ?_
  refine Ag ?_
  refine RK wR [(.str x)] ?_
  exact Same.of_eq (by simp only [Ak]; unfold orS; rw [if_neg (by assumption)])
 ·refine Ai ?_
  refine Ap ?_
  refine Av 0 [] [3, 6, 7, 8] [] hk0 v0 (cc 0 (p := (-9223372036854775808 ≤ (1 : Int) ∧ (1 : Int) ≤ 9223372036854775807)) (by omega) <| c0) ?_
  refine Fc ?_
  refine Aa [] [3, 6, 7, 8, 9] ?_
  refine Ad ?_
  refine Gh (by kernel_rfl) ?_
  refine Ai ?_
  refine Ad ?_
  refine A1 ?_
  refine Ah [] [3, 5, 6, 7, 8] [] hk0 v0 (cc 0 (p := (0 ≤ (1 : Int) ∧ 1 < 2)) (by omega) <| c0) ?_
  refine Aa [] [3, 5, 6, 7, 8, 14] ?_
  refine Da (p := y = []) (by kernel_rfl) (fun c2 => ?_) (fun c2 => ?_)
  ·refine Aa [] [2] ?_
   refine Ag ?_
   refine RK wR [(.str y)] ?_
   exact Same.of_eq (by simp only [Ak]; unfold orS; rw [if_pos (by simp_all)] <;> rfl)
  ·refine Ai ?_
   refine Ap ?_
   refine Av 0 [] [3, 6, 7, 8] [] hk0 v0 (cc 0 (p := (-9223372036854775808 ≤ (2 : Int) ∧ (2 : Int) ≤ 9223372036854775807)) (by omega) <| c0) ?_
   refine Fc ?_
   refine Aa [] [3, 6, 7, 8, 9] ?_
   refine Ad ?_
   refine Ei (by kernel_rfl) ?_
   refine Br ?_
   refine Aa [] [2] ?_
   refine Ag ?_
   refine RK wR [(.str [])] ?_
   exact Same.of_eq (by simp only [Ak]; unfold orS; rw [if_pos (by simp_all)] <;> simp_all)
theorem Q1o (kind : Int) (a b : List UInt8) (ha : a.length ≤ 4194304) (hb : b.length ≤ 4194304) :
  FnV Tryz.prog 141 [(.int .i64 kind), (.str a), (.str b)] (.tup [(.agg [.str (Bi kind a b).1.1, .str (Bi kind a b).1.2.1, .str (Bi kind a b).1.2.2]), (.agg [.str (Bi kind a b).2.1.1, .str (Bi kind a b).2.1.2.1, .str (Bi kind a b).2.1.2.2]), .int .i64 (Bi kind a b).2.2]) := by
 refine A4 [.cell 6 150, .cell 7 150, .tmp 8] Tryz.func141 rfl Tryz.ntmps141 rfl rfl (fun B F hF => ?_)
 refine Aa [] [0, 1, 2, 6, 7] ?_
 refine Ad ?_
 obtain ⟨b1, hb1⟩ : ∃ b, b = (!decide (kind = 1)) := ⟨_, rfl⟩
 refine Ah (CS := [(4, (b1 = true → b1 = true)), (5, (b1 = true → b1 = true))]) [12, 13] [1, 2, 6, 7, 14] [] hk0 (vk 3 11 (a := .bool (!decide (kind = 1))) (b := .bool b1) (Imp.of_eq (by rw [hb1])) <| v0) (by refine cc _ ?_ <| cc _ ?_ c0 <;> simp) ?_
 refine Bd (q := b1 && (!decide (kind = 2))) (by kernel_rfl) (fun c1 => ?_) (fun c1 => ?_)
 ·subst hb1
  try simp only [Ao] at c1
  refine Cq [] [6, 7, 8] [] hk0 v0 c0 ?_
  refine Ag ?_
  refine RK wR [(.agg [(.str []), (.str []), (.str [])]), (.agg [(.str []), (.str []), (.str [])]), (.int .i64 1)] ?_
  exact Same.of_eq (by simp only [Ak]; unfold Bi; first | (rw [if_pos (by omega)]; done) | (rw [if_neg (by omega), if_pos (by omega)]; done) | (rw [if_neg (by omega), if_neg (by omega)]; done))
 ·subst hb1
  try simp only [Ao] at c1
  refine Ai ?_
  refine Ad ?_
  refine Ah [] [2, 6, 7, 8] [] (hk 1 Ni (Pl a (by omega)) <| hk0) v0 c0 ?_
  refine Aa [] [2, 6, 7, 8, 23] ?_
  refine A6 (p := (Cc a) = 0) (by kernel_rfl) (fun c2 => ?_) (fun c2 => ?_)
  ·refine Ap ?_
   refine Av 0 [] [6, 7, 8] [] (hk 1 Ni (Pl b (by omega)) <| hk0) v0 c0 ?_
   refine Cq [] [6, 7, 8] [] hk0 v0 c0 ?_
   refine Ag ?_
   refine RK wR [(.agg [(.str ((Co a).1)), (.str ((Co a).2.1)), (.str ((Co a).2.2))]), (.agg [(.str ((Co b).1)), (.str ((Co b).2.1)), (.str ((Co b).2.2))]), (.int .i64 (Cc b))] ?_
   exact Same.of_eq (by simp only [Ak]; unfold Bi; first | (rw [if_pos (by omega)]; done) | (rw [if_neg (by omega), if_pos (by omega)]; done) | (rw [if_neg (by omega), if_neg (by omega)]; done))
  ·refine Ai ?_
   refine Cq [] [6, 7, 8] [] hk0 v0 c0 ?_
   refine Ag ?_
   refine RK wR [(.agg [(.str ((Co a).1)), (.str ((Co a).2.1)), (.str ((Co a).2.2))]), (.agg [(.str []), (.str []), (.str [])]), (.int .i64 (Cc a))] ?_
   exact Same.of_eq (by simp only [Ak]; unfold Bi; first | (rw [if_pos (by omega)]; done) | (rw [if_neg (by omega), if_pos (by omega)]; done) | (rw [if_neg (by omega), if_neg (by omega)]; done))
end Sv
end Go.Proofs.YtlmloohlmlahfaaGreatDoor
end
section
namespace Go.Proofs.YtlmloohlmlahfaaGreatDoor
open Go Go.RowKit
namespace Sv
attribute [local irreducible] SW SO Bn
set_option maxHeartbeats 400000
set_option maxRecDepth 100000
theorem Q0i : Au Tryz.prog 180 := Ay Tryz.func180 (by kernel_rfl) rfl
theorem Q0e : Au Tryz.prog 216 := Ay Tryz.func216 (by kernel_rfl) rfl
theorem X0d : Au Tryz.prog 217 := Ay Tryz.func217 (by kernel_rfl) rfl
theorem X0c : Au Tryz.prog 218 := Ay Tryz.func218 (by kernel_rfl) rfl
def I5 (c : UInt8) : Bool := Bh c || (B4 c || (decide (c.toNat = 126) || decide (c.toNat = 94)))
theorem Q70 (c : UInt8) :
  FnV Tryz.prog 217 [(.int .u8 ((c.toNat : Int)))] (.bool (I5 c)) := by
 refine A4 [.tmp 2] Tryz.func217 rfl Tryz.ntmps217 rfl rfl (fun B F hF => ?_)
 refine Aa [] [0] ?_
 obtain ⟨b1, hb1⟩ : ∃ b, b = ((Bh c) || (B4 c)) := ⟨_, rfl⟩
 obtain ⟨b2, hb2⟩ : ∃ b, b = (b1 || (decide ((c.toNat : Int) = 126))) := ⟨_, rfl⟩
 refine Ah (CS := [(4, (!(Bh c)) = true → (!(Bh c)) = true), (5, ((Bh c) = false → (!(Bh c)) = true)), (8, ((!b1) = true → (!b1) = true)), (9, (b1 = false → (!b1) = true)), (12, ((!b2) = true → (!b2) = true)), (13, (b2 = false → (!b2) = true))]) [6, 10, 11, 14, 15] [2] [] (hk 1 Hw (Ih c) <| hkg 4 (!(Bh c)) Lu (fun cg => M2 c) <| hk0) (vk 7 9 (a := .bool ((Bh c) || (B4 c))) (b := .bool b1) (Imp.of_eq (by rw [hb1])) <| vk 11 13 (a := .bool (b1 || (decide ((c.toNat : Int) = 126)))) (b := .bool b2) (Imp.of_eq (by rw [hb2])) <| v0) (by refine cc _ ?_ <| cc _ ?_ <| cc _ ?_ <| cc _ ?_ <| cc _ ?_ <| cc _ ?_ c0 <;> simp) ?_
 refine Ag ?_
 refine RK wR [(.bool (b2 || (decide ((c.toNat : Int) = 94))))] ?_
 subst hb2 hb1
 refine Same.of_eq ?_
 simp only [Ak]
 congr 1
 unfold I5
 rw [Bool.eq_iff_iff]
 have e1 : ((c.toNat : Int) = 126) ↔ c.toNat = 126 := by omega
 have e2 : ((c.toNat : Int) = 94) ↔ c.toNat = 94 := by omega
 simp only [Bool.and_eq_true, Bool.or_eq_true, decide_eq_true_eq, e1, e2, or_assoc]
theorem Q6x (c : UInt8) (a : AV) (q : Bool) (ha : FunV Tryz.prog a [.int .u8 (c.toNat : Int)] (.bool q)) :
  FnV Tryz.prog 218 [(.int .u8 ((c.toNat : Int))), (.fp (.agg [(.clo a)]))] (.bool (!q)) := by
 refine A4 [.tmp 3] Tryz.func218 rfl Tryz.ntmps218 rfl rfl (fun B F hF => ?_)
 refine Aa [] [0, 1] ?_
 refine Ad ?_
 refine Ap ?_
 refine Bq 2 0 [] [4, 5] [] hk0 v0 c0 ?_
 refine Fd (s' := [(4, (.clo a)), (5, (.int .u8 ((c.toNat : Int)))), (6, (.bool q))]) (a := (.clo a)) (al := [(.int .u8 ((c.toNat : Int)))]) (r := (.bool q)) (by kernel_rfl) (by kernel_rfl) (by kernel_rfl) (by kernel_rfl) (by kernel_rfl) ha.clo (by kernel_rfl) ?_
 refine Av 3 [] [3] [] hk0 v0 c0 ?_
 refine Ag ?_
 refine RK wR [(.bool (!q))] ?_
 exact Same.of_eq (by first | rfl | (simp only [Ak]; simp_all))
theorem X2u (a b : List UInt8) (ha : a.length ≤ 4194304) (hb : b.length ≤ 4194304) :
  FnV Tryz.prog 216 [(.int .u8 126), (.fp (.agg [(.str a)])), (.fp (.agg [(.str b)]))] (.tup [.bool (Bj a 126), .bool (Bj b 126)]) := by
 refine A4 [.tmp 4, .tmp 5] Tryz.func216 rfl Tryz.ntmps216 rfl rfl (fun B F hF => ?_)
 refine Aa [] [0, 1, 2] ?_
 refine Cq [] [4, 5] [] (hk 3 Lv (Ny a 126 (by omega)) <| hk 7 Lv (Ny b 126 (by omega)) <| hk0) v0 c0 ?_
 refine Ag ?_
 refine RK wR [(.bool (Bj a 126)), (.bool (Bj b 126))] ?_
 exact Same.of_eq (by first | rfl | (simp only [Ak]; simp_all))
theorem X2t (a b : List UInt8) (ha : a.length ≤ 4194304) (hb : b.length ≤ 4194304) :
  FnV Tryz.prog 216 [(.int .u8 94), (.fp (.agg [(.str a)])), (.fp (.agg [(.str b)]))] (.tup [.bool (Bj a 94), .bool (Bj b 94)]) := by
 refine A4 [.tmp 4, .tmp 5] Tryz.func216 rfl Tryz.ntmps216 rfl rfl (fun B F hF => ?_)
 refine Aa [] [0, 1, 2] ?_
 refine Cq [] [4, 5] [] (hk 3 Lv (Ny a 94 (by omega)) <| hk 7 Lv (Ny b 94 (by omega)) <| hk0) v0 c0 ?_
 refine Ag ?_
 refine RK wR [(.bool (Bj a 94)), (.bool (Bj b 94))] ?_
 exact Same.of_eq (by first | rfl | (simp only [Ak]; simp_all))
end Sv
end Go.Proofs.YtlmloohlmlahfaaGreatDoor
end
section
namespace Go.Proofs.YtlmloohlmlahfaaGreatDoor
open Go Go.RowKit
namespace Sv
attribute [local irreducible] SW SO Bn
set_option maxHeartbeats 2000000
set_option maxRecDepth 100000
def Ec (c : UInt8) : Bool := !I5 c
theorem Xj (c : UInt8) : FunV Tryz.prog (.fn 218 [] [.fp (.agg [.fn 217 [] []])]) [.int .u8 (c.toNat : Int)] (.bool (Ec c)) :=
 FunV.of (by exact X0c) ((Q6x c (.fn 217 [] []) (I5 c) (FunV.of (by exact X0d) (Q70 c))).of_args (ImpL.cons Imp.refl (ImpL.cons (Imp.fp (Imp.aggs (ImpL.cons (Imp.clo rfl) ImpL.nil))) ImpL.nil)))
theorem Y5 {s : List UInt8} {k : UInt8} (h : Bj s k = true) : 1 ≤ s.length := by
 cases s with
 | nil => simp [Bj] at h
 | cons a r => simp
theorem Q06 (p : UInt8 → Bool) : ∀ s : List UInt8, s.drop (A8 p s) = [] ∨ p (Aq (s.drop (A8 p s)) 0) = false
 | [] => .inl rfl
 | a :: r => by
  unfold A8
  rw [List.takeWhile_cons]
  cases h : p a with
  | true => exact Q06 p r
  | false => right; simpa [Aq] using h
theorem Xk {s r : List UInt8} (h : r = s.drop (A8 Ec s)) : r = [] ∨ I5 (Aq r 0) = true := by
 rcases Q06 Ec s with q | q
 ·exact .inl (h.trans q)
 ·right
  rw [h]
  have e : (!I5 (Aq (s.drop (A8 Ec s)) 0)) = false := q
  simpa using e
theorem Tk {p : UInt8 → Bool} {s : List UInt8} (h : 1 ≤ s.length) (k : p (Aq s 0) = true) : 1 ≤ A8 p s := by
 cases s with
 | nil => simp at h
 | cons a r => unfold A8; rw [List.takeWhile_cons, show p a = true from by simpa [Aq] using k]; simp
theorem Q71 {s : List UInt8} (h : I5 (Aq s 0) = true) (hs : 1 ≤ s.length) (h1 : Bj s 126 = false) (h2 : Bj s 94 = false) (h3 : Bh (Aq s 0) = false) : B4 (Aq s 0) = true := by
 cases s with
 | nil => simp at hs
 | cons a r =>
  have e : Aq (a :: r) 0 = a := by simp [Aq]
  rw [e] at h h3 ⊢
  unfold I5 at h
  rw [h3] at h
  have a1 : ¬ a.toNat = 126 := fun q => by have : a = 126 := UInt8.toNat_inj.1 q; subst this; simp [Bj] at h1
  have a2 : ¬ a.toNat = 94 := fun q => by have : a = 94 := UInt8.toNat_inj.1 q; subst this; simp [Bj] at h2
  simpa [a1, a2] using h
def E6 (r : List UInt8 → List UInt8 → Int) (a b : List UInt8) : Int :=
 if Bj a 126 = true ∨ Bj b 126 = true then
  if Bj a 126 = true ∧ Bj b 126 = true then r (a.drop 1) (b.drop 1) else Fj (Bj a 126) (Bj b 126) (-1)
 else if Bj a 94 = true ∨ Bj b 94 = true then
  if Bj a 94 = true ∧ Bj b 94 = true then r (a.drop 1) (b.drop 1)
  else if a = [] ∨ b = [] then Fj (Bj a 94) (Bj b 94) 1 else Fj (Bj a 94) (Bj b 94) (-1)
 else if a = [] ∨ b = [] then Gd (a.length : Int) (b.length : Int)
 else if Bh (Aq a 0) = true then
  if A8 Bh b = 0 then 1
  else if ¬ Dz (a.take (A8 Bh a)) (b.take (A8 Bh b)) = 0 then Dz (a.take (A8 Bh a)) (b.take (A8 Bh b))
  else r (a.drop (A8 Bh a)) (b.drop (A8 Bh b))
 else if A8 B4 b = 0 then -1
 else if ¬ Lib.compareBytes (a.take (A8 B4 a)) (b.take (A8 B4 b)) = 0 then Lib.compareBytes (a.take (A8 B4 a)) (b.take (A8 B4 b))
 else r (a.drop (A8 B4 a)) (b.drop (A8 B4 b))
def H6 : Nat → List UInt8 → List UInt8 → Int
 | 0, _, _ => 0
 | n + 1, a, b => E6 (H6 n) (a.drop (A8 Ec a)) (b.drop (A8 Ec b))
theorem Q5d (n : Nat) (a0 b0 : List UInt8) (h0 : a0.length + b0.length < n) (ha : a0.length ≤ 4194304) (hb : b0.length ≤ 4194304) :
  FnV Tryz.prog 180 [(.str a0), (.str b0)] (.int .i64 (H6 n a0 b0)) := by
 refine A4 [.tmp 4] Tryz.func180 rfl Tryz.ntmps180 rfl rfl (fun B F hF => ?_)
 refine Aa [] [2, 3] ?_
 refine T6 0 rfl (fun g y => ∃ (k : Nat) (a : List UInt8) (b : List UInt8), a.length + b.length < k ∧ a.length ≤ 4194304 ∧ b.length ≤ 4194304 ∧ H6 n a0 b0 = H6 k a b ∧ y = ⟨[(2, (.ptr 0 0)), (3, (.ptr 1 0)), (5, (.fn 216 [] [(.ptr 0 0), (.ptr 1 0)])), (7, (.fn 218 [] [(.fp (.agg [(.fn 217 [] [])]))]))], [(0, (.row [(.str a)] 9)), (1, (.row [(.str b)] 9))], 3⟩ ∧ g = k) [2, 3, 5, 7] 3 (by omega) (fun hJ0 => ?_) ?_
 ·refine Ad ?_
  refine Ap ?_
  refine Fv [] [2, 3, 5] ?_
  refine Ad ?_
  refine Ap ?_
  refine Fv [] [2, 3, 5, 6] ?_
  refine Ad ?_
  refine Ap ?_
  refine Av 0 [] [2, 3, 5, 7] [(0, 6)] hk0 v0 c0 ?_
  refine Ad ?_
  refine T7 ?_
  refine Qg (y := ⟨[(2, (.ptr 0 0)), (3, (.ptr 1 0)), (5, (.fn 216 [] [(.ptr 0 0), (.ptr 1 0)])), (7, (.fn 218 [] [(.fp (.agg [(.fn 217 [] [])]))]))], [(0, (.row [(.str a0)] 9)), (1, (.row [(.str b0)] 9))], 3⟩) [2, 3, 5, 7] 3 (by omega) (by kernel_rfl) (hJ0 _ _ ⟨n, a0, b0, (by omega), (by omega), (by omega), (by rfl), (by kernel_rfl), rfl⟩)
 ·rintro g y ⟨k, a, b, fl0_1, fl0_2, fl0_3, fl0_4, rfl, rfl⟩
  obtain ⟨k, rfl⟩ : ∃ q, g = q + 1 := ⟨g - 1, by omega⟩
  have hoa := Ii Ec a
  have hob := Ii Ec b
  refine Dt (fun y => ∃ (a1 : List UInt8) (b1 : List UInt8), a1 = a.drop (A8 Ec a) ∧ b1 = b.drop (A8 Ec b) ∧ y = ⟨[(2, (.ptr 0 0)), (3, (.ptr 1 0)), (5, (.fn 216 [] [(.ptr 0 0), (.ptr 1 0)])), (7, (.fn 218 [] [(.fp (.agg [(.fn 217 [] [])]))]))], [(0, (.row [(.str a1)] 9)), (1, (.row [(.str b1)] 9))], 3⟩) [2, 3, 5, 7] 3 (by omega) ?_ ?_
  ·refine Gy (CS := [(4, (0 ≤ (A8 Ec a : Int) ∧ (A8 Ec a : Int) ≤ (a.length : Int) ∧ (a.length : Int) ≤ (a.length : Int))), (9, (0 ≤ (A8 Ec b : Int) ∧ (A8 Ec b : Int) ≤ (b.length : Int) ∧ (b.length : Int) ≤ (b.length : Int)))]) [] [2, 3, 5, 7] [] (hk 3 (al := [(.str a), (.fn 218 [] [(.fp (.agg [(.fn 217 [] [])]))])]) G9 ((Hz a (.fn 218 [] [.fp (.agg [.fn 217 [] []])]) Ec (by omega) (fun c => Xj c)).of_args (ImpL.cons Imp.refl (ImpL.cons (Imp.clo rfl) ImpL.nil))) <| hk 8 (al := [(.str b), (.fn 218 [] [(.fp (.agg [(.fn 217 [] [])]))])]) G9 ((Hz b (.fn 218 [] [.fp (.agg [.fn 217 [] []])]) Ec (by omega) (fun c => Xj c)).of_args (ImpL.cons Imp.refl (ImpL.cons (Imp.clo rfl) ImpL.nil))) <| hk0) v0 (by refine cc _ ?_ <| cc _ ?_ c0 <;> omega) ?_
   refine ⟨by kernel_rfl, ((a.take a.length).drop (A8 Ec a)), ((b.take b.length).drop (A8 Ec b)), ?_, ?_, (by kernel_rfl)⟩
   all_goals rw [List.take_length]
  ·rintro y1 ⟨a1, b1, ja, jb, rfl⟩
   have hla : a1.length ≤ a.length := by rw [ja, List.length_drop]; omega
   have hlb : b1.length ≤ b.length := by rw [jb, List.length_drop]; omega
   have hma := Xk ja
   have hmb := Xk jb
   have hxa := fun k => Y5 (s := a1) (k := k)
   have hxb := fun k => Y5 (s := b1) (k := k)
   have hda := Ii Bh a1
   have hdb := Ii Bh b1
   have hea := Ii B4 a1
   have heb := Ii B4 b1
   have e0 : H6 (k + 1) a b = E6 (H6 k) a1 b1 := by rw [ja, jb]; rfl
   refine Ad ?_
   refine Ad ?_
   refine Ap ?_
   refine Bq 1 0 [] [2, 3, 5, 7, 31] [] hk0 v0 c0 ?_
   refine Q25 (s' := [(2, (.ptr 0 0)), (3, (.ptr 1 0)), (5, (.fn 216 [] [(.ptr 0 0), (.ptr 1 0)])), (7, (.fn 218 [] [(.fp (.agg [(.fn 217 [] [])]))])), (31, (.fn 216 [] [(.ptr 0 0), (.ptr 1 0)])), (32, (.tup [(.bool (Bj a1 126)), (.bool (Bj b1 126))]))]) (al := [(.int .u8 126)]) (f := 216) (cap := [(.ptr 0 0), (.ptr 1 0)]) (al' := [(.int .u8 126), (.fp (.agg [(.str a1)])), (.fp (.agg [(.str b1)]))]) (h' := []) (r := (.tup [(.bool (Bj a1 126)), (.bool (Bj b1 126))])) (by kernel_rfl) (by kernel_rfl) (by exact Q0e) (by kernel_rfl) (by kernel_rfl) (X2u a1 b1 (by omega) (by omega)) rfl (by kernel_rfl) ?_
   refine Av 2 [] [2, 3, 5, 7, 8, 9] [] hk0 v0 c0 ?_
   refine Ah [37] [2, 3, 5, 7, 8, 9, 38] [] hk0 v0 (cc 3 (p := ((Bj a1 126) = false → (!(Bj a1 126)) = true)) (by simp) <| c0) ?_
   refine Bd (q := (Bj a1 126) || (Bj b1 126)) (by kernel_rfl) (fun c1 => ?_) (fun c1 => ?_)
   ·try simp only [Ao] at c1
    refine Ad ?_
    refine Ah [41] [2, 3, 5, 7, 8, 9, 42] [] hk0 v0 (cc 3 (p := ((Bj a1 126) = true → (Bj a1 126) = true)) (by simp) <| c0) ?_
    refine Bd (q := (Bj a1 126) && (Bj b1 126)) (by kernel_rfl) (fun c2 => ?_) (fun c2 => ?_)
    ·try simp only [Ao] at c2
     have h1 := hxa _ c2.1
     have h2 := hxb _ c2.2
     refine Cq (CS := [(1, (0 ≤ (1 : Int) ∧ (1 : Int) ≤ (a1.length : Int) ∧ (a1.length : Int) ≤ (a1.length : Int))), (3, (0 ≤ (1 : Int) ∧ (1 : Int) ≤ (b1.length : Int) ∧ (b1.length : Int) ≤ (b1.length : Int)))]) [] [2, 3, 5, 7] [] hk0 v0 (by refine cc _ ?_ <| cc _ ?_ c0 <;> omega) ?_
     refine L4 ⟨rfl, _, (by kernel_rfl : gcS _ _ _ = some ⟨[(2, (.ptr 0 0)), (3, (.ptr 1 0)), (5, (.fn 216 [] [(.ptr 0 0), (.ptr 1 0)])), (7, (.fn 218 [] [(.fp (.agg [(.fn 217 [] [])]))]))], [(0, (.row [(.str ((a1.take a1.length).drop 1))] 9)), (1, (.row [(.str ((b1.take b1.length).drop 1))] 9))], 3⟩), _, ?_, k, ((a1.take a1.length).drop 1), ((b1.take b1.length).drop 1), ?_, ?_, ?_, ?_, (by kernel_rfl), rfl⟩
     all_goals (try simp only [List.take_length, List.drop_zero, List.length_drop] at *)
     ·omega
     ·omega
     ·omega
     ·omega
     ·rw [fl0_4, e0]
      unfold E6
      rw [if_pos c1, if_pos c2]
    ·try simp only [Ao] at c2
     refine Ai ?_
     refine Ah [] [4] [] (hk 2 Pq (Ov (Bj a1 126) (Bj b1 126) (-1) (by omega)) <| hk0) v0 c0 ?_
     refine Ag ?_
     refine RK wR [(.int .i64 (Fj (Bj a1 126) (Bj b1 126) (-1)))] ?_
     refine Same.of_eq ?_
     simp only [Ak]
     try simp only [List.take_length, List.drop_zero] at *
     rw [fl0_4, e0]
     congr 1
     symm
     unfold E6
     rw [if_pos c1, if_neg (by rcases c2 with h | h <;> simp [h])]
   ·try simp only [Ao] at c1
    refine Ai ?_
    refine Ad ?_
    refine Ad ?_
    refine Ap ?_
    refine Bq 1 0 [] [2, 3, 5, 7, 51] [] hk0 v0 c0 ?_
    refine Q25 (s' := [(2, (.ptr 0 0)), (3, (.ptr 1 0)), (5, (.fn 216 [] [(.ptr 0 0), (.ptr 1 0)])), (7, (.fn 218 [] [(.fp (.agg [(.fn 217 [] [])]))])), (51, (.fn 216 [] [(.ptr 0 0), (.ptr 1 0)])), (52, (.tup [(.bool (Bj a1 94)), (.bool (Bj b1 94))]))]) (al := [(.int .u8 94)]) (f := 216) (cap := [(.ptr 0 0), (.ptr 1 0)]) (al' := [(.int .u8 94), (.fp (.agg [(.str a1)])), (.fp (.agg [(.str b1)]))]) (h' := []) (r := (.tup [(.bool (Bj a1 94)), (.bool (Bj b1 94))])) (by kernel_rfl) (by kernel_rfl) (by exact Q0e) (by kernel_rfl) (by kernel_rfl) (X2t a1 b1 (by omega) (by omega)) rfl (by kernel_rfl) ?_
    refine Av 2 [] [2, 3, 5, 7, 10, 11] [] hk0 v0 c0 ?_
    refine Ah [57] [2, 3, 5, 7, 10, 11, 58] [] hk0 v0 (cc 3 (p := ((Bj a1 94) = false → (!(Bj a1 94)) = true)) (by simp) <| c0) ?_
    refine Bd (q := (Bj a1 94) || (Bj b1 94)) (by kernel_rfl) (fun c3 => ?_) (fun c3 => ?_)
    ·try simp only [Ao] at c3
     refine Ad ?_
     refine A1 ?_
     refine Ah [62] [2, 3, 5, 7, 10, 11, 59] [] hk0 v0 (cc 3 (p := ((Bj a1 94) = true → (Bj a1 94) = true)) (by simp) <| c0) ?_
     refine Bd (q := (Bj a1 94) && (Bj b1 94)) (by kernel_rfl) (fun c4 => ?_) (fun c4 => ?_)
     ·try simp only [Ao] at c4
      have h1 := hxa _ c4.1
      have h2 := hxb _ c4.2
      refine Cq (CS := [(1, (0 ≤ (1 : Int) ∧ (1 : Int) ≤ (a1.length : Int) ∧ (a1.length : Int) ≤ (a1.length : Int))), (3, (0 ≤ (1 : Int) ∧ (1 : Int) ≤ (b1.length : Int) ∧ (b1.length : Int) ≤ (b1.length : Int)))]) [] [2, 3, 5, 7] [] hk0 v0 (by refine cc _ ?_ <| cc _ ?_ c0 <;> omega) ?_
      refine L4 ⟨rfl, _, (by kernel_rfl : gcS _ _ _ = some ⟨[(2, (.ptr 0 0)), (3, (.ptr 1 0)), (5, (.fn 216 [] [(.ptr 0 0), (.ptr 1 0)])), (7, (.fn 218 [] [(.fp (.agg [(.fn 217 [] [])]))]))], [(0, (.row [(.str ((a1.take a1.length).drop 1))] 9)), (1, (.row [(.str ((b1.take b1.length).drop 1))] 9))], 3⟩), _, ?_, k, ((a1.take a1.length).drop 1), ((b1.take b1.length).drop 1), ?_, ?_, ?_, ?_, (by kernel_rfl), rfl⟩
      all_goals (try simp only [List.take_length, List.drop_zero, List.length_drop] at *)
      ·omega
      ·omega
      ·omega
      ·omega
      ·rw [fl0_4, e0]
       unfold E6
       rw [if_neg (by simp [c1.1, c1.2]), if_pos c3, if_pos c4]
     ·try simp only [Ao] at c4
      refine Ah (CS := [(4, ((!(decide (a1 = []))) = true → (!(decide (a1 = []))) = true)), (5, ((decide (a1 = [])) = false → (!(decide (a1 = []))) = true))]) [72, 73] [10, 11, 68] [] hk0 v0 (by refine cc _ ?_ <| cc _ ?_ c0 <;> simp) ?_
      refine Bd (q := (decide (a1 = [])) || (decide (b1 = []))) (by kernel_rfl) (fun c5 => ?_) (fun c5 => ?_)
      ·try simp only [Ao] at c5
       refine Ah [] [4] [] (hk 2 Pq (Ov (Bj a1 94) (Bj b1 94) 1 (by omega)) <| hk0) v0 c0 ?_
       refine Ag ?_
       refine RK wR [(.int .i64 (Fj (Bj a1 94) (Bj b1 94) 1))] ?_
       refine Same.of_eq ?_
       simp only [Ak]
       try simp only [List.take_length, List.drop_zero] at *
       rw [fl0_4, e0]
       congr 1
       symm
       unfold E6
       rw [if_neg (by simp [c1.1, c1.2]), if_pos c3, if_neg (by rcases c4 with h | h <;> simp [h]), if_pos c5]
      ·try simp only [Ao] at c5
       refine Ai ?_
       refine Ah [] [4] [] (hk 2 Pq (Ov (Bj a1 94) (Bj b1 94) (-1) (by omega)) <| hk0) v0 c0 ?_
       refine Ag ?_
       refine RK wR [(.int .i64 (Fj (Bj a1 94) (Bj b1 94) (-1)))] ?_
       refine Same.of_eq ?_
       simp only [Ak]
       try simp only [List.take_length, List.drop_zero] at *
       rw [fl0_4, e0]
       congr 1
       symm
       unfold E6
       rw [if_neg (by simp [c1.1, c1.2]), if_pos c3, if_neg (by rcases c4 with h | h <;> simp [h]), if_neg (by simp [c5.1, c5.2])]
    ·try simp only [Ao] at c3
     refine Ai ?_
     refine Ad ?_
     refine Ah (CS := [(4, ((!(decide (a1 = []))) = true → (!(decide (a1 = []))) = true)), (5, ((decide (a1 = [])) = false → (!(decide (a1 = []))) = true))]) [84, 85] [2, 3, 5, 7, 86] [] hk0 v0 (by refine cc _ ?_ <| cc _ ?_ c0 <;> simp) ?_
     refine Bd (q := (decide (a1 = [])) || (decide (b1 = []))) (by kernel_rfl) (fun c6 => ?_) (fun c6 => ?_)
     ·try simp only [Ao] at c6
      refine Ah [] [4] [] (hk 4 S7 (Tq (a1.length : Int) (b1.length : Int)) <| hk0) v0 c0 ?_
      refine Ag ?_
      refine RK wR [(.int .i64 (Gd (a1.length : Int) (b1.length : Int)))] ?_
      refine Same.of_eq ?_
      simp only [Ak]
      try simp only [List.take_length, List.drop_zero] at *
      rw [fl0_4, e0]
      congr 1
      symm
      unfold E6
      rw [if_neg (by simp [c1.1, c1.2]), if_neg (by simp [c3.1, c3.2]), if_pos c6]
     ·try simp only [Ao] at c6
      have hpa := List.length_pos_iff.2 c6.1
      have hpb := List.length_pos_iff.2 c6.2
      refine Ai ?_
      refine Ad ?_
      refine Ah [] [2, 3, 5, 7, 94] [] (hk 2 Hw (Ih (Aq a1 0)) <| hk0) v0 (cc 1 (p := (0 ≤ (0 : Int) ∧ 0 < a1.length)) (by omega) <| c0) ?_
      refine Bd (q := Bh (Aq a1 0)) (by kernel_rfl) (fun c7 => ?_) (fun c7 => ?_)
      ·try simp only [Ao] at c7
       refine Cq [] [2, 3, 5, 7, 12, 13] [] (hk 1 (al := [(.str a1), (.fn 160 [] [])]) G9 ((Hz a1 (.fn 160 [] []) Bh (by omega) (fun c => FunV.of (by exact Hw) (Ih c))).of_args (ImpL.cons Imp.refl (ImpL.cons (Imp.clo rfl) ImpL.nil))) <| hk 3 (al := [(.str b1), (.fn 160 [] [])]) G9 ((Hz b1 (.fn 160 [] []) Bh (by omega) (fun c => FunV.of (by exact Hw) (Ih c))).of_args (ImpL.cons Imp.refl (ImpL.cons (Imp.clo rfl) ImpL.nil))) <| hk0) v0 c0 ?_
       refine Ad ?_
       refine Aa [] [2, 3, 5, 7, 12, 13, 100] ?_
       refine A6 (p := (A8 Bh b1 : Int) = 0) (by kernel_rfl) (fun c8 => ?_) (fun c8 => ?_)
       ·refine Aa [] [4] ?_
        refine Ag ?_
        refine RK wR [(.int .i64 1)] ?_
        refine Same.of_eq ?_
        simp only [Ak]
        try simp only [List.take_length, List.drop_zero] at *
        rw [fl0_4, e0]
        congr 1
        symm
        unfold E6
        rw [if_neg (by simp [c1.1, c1.2]), if_neg (by simp [c3.1, c3.2]), if_neg (by simp [c6.1, c6.2]), if_pos c7, if_pos (by omega)]
       ·refine Ai ?_
        refine Ad ?_
        refine Cq (CS := [(2, (0 ≤ (0 : Int) ∧ (0 : Int) ≤ (A8 Bh a1 : Int) ∧ (A8 Bh a1 : Int) ≤ (a1.length : Int))), (5, (0 ≤ (0 : Int) ∧ (0 : Int) ≤ (A8 Bh b1 : Int) ∧ (A8 Bh b1 : Int) ≤ (b1.length : Int)))]) [] [2, 3, 5, 7, 12, 13, 14] [] (hk 6 S8 (Ru ((a1.take (A8 Bh a1)).drop 0) ((b1.take (A8 Bh b1)).drop 0)) <| hk0) v0 (by refine cc _ ?_ <| cc _ ?_ c0 <;> omega) ?_
        refine Aa [] [2, 3, 5, 7, 12, 13, 14, 109] ?_
        refine Da (p := (Dz ((a1.take (A8 Bh a1)).drop 0) ((b1.take (A8 Bh b1)).drop 0)) = 0) (by kernel_rfl) (fun c9 => ?_) (fun c9 => ?_)
        ·refine Aa [] [4] ?_
         refine Ag ?_
         refine RK wR [(.int .i64 (Dz ((a1.take (A8 Bh a1)).drop 0) ((b1.take (A8 Bh b1)).drop 0)))] ?_
         refine Same.of_eq ?_
         simp only [Ak]
         try simp only [List.take_length, List.drop_zero] at *
         rw [fl0_4, e0]
         congr 1
         symm
         unfold E6
         rw [if_neg (by simp [c1.1, c1.2]), if_neg (by simp [c3.1, c3.2]), if_neg (by simp [c6.1, c6.2]), if_pos c7, if_neg (by omega), if_pos c9]
        ·refine Ai ?_
         refine Cq (CS := [(2, (0 ≤ (A8 Bh a1 : Int) ∧ (A8 Bh a1 : Int) ≤ (a1.length : Int) ∧ (a1.length : Int) ≤ (a1.length : Int))), (5, (0 ≤ (A8 Bh b1 : Int) ∧ (A8 Bh b1 : Int) ≤ (b1.length : Int) ∧ (b1.length : Int) ≤ (b1.length : Int)))]) [] [2, 3, 5, 7] [] hk0 v0 (by refine cc _ ?_ <| cc _ ?_ c0 <;> omega) ?_
         refine L4 ⟨rfl, _, (by kernel_rfl : gcS _ _ _ = some ⟨[(2, (.ptr 0 0)), (3, (.ptr 1 0)), (5, (.fn 216 [] [(.ptr 0 0), (.ptr 1 0)])), (7, (.fn 218 [] [(.fp (.agg [(.fn 217 [] [])]))]))], [(0, (.row [(.str ((a1.take a1.length).drop (A8 Bh a1)))] 9)), (1, (.row [(.str ((b1.take b1.length).drop (A8 Bh b1)))] 9))], 3⟩), _, ?_, k, ((a1.take a1.length).drop (A8 Bh a1)), ((b1.take b1.length).drop (A8 Bh b1)), ?_, ?_, ?_, ?_, (by kernel_rfl), rfl⟩
         all_goals (try simp only [List.take_length, List.drop_zero, List.length_drop] at *)
         have h3 := Tk (p := Bh) (s := a1) (by omega) (by simpa using c7)
         ·omega
         ·omega
         ·omega
         ·omega
         ·rw [fl0_4, e0]
          unfold E6
          rw [if_neg (by simp [c1.1, c1.2]), if_neg (by simp [c3.1, c3.2]), if_neg (by simp [c6.1, c6.2]), if_pos c7, if_neg (by omega), if_neg (fun q => q c9)]
      ·try simp only [Ao] at c7
       refine Ai ?_
       refine Cq [] [2, 3, 5, 7, 15, 16] [] (hk 1 (al := [(.str a1), (.fn 161 [] [])]) G9 ((Hz a1 (.fn 161 [] []) B4 (by omega) (fun c => FunV.of (by exact Lu) (M2 c))).of_args (ImpL.cons Imp.refl (ImpL.cons (Imp.clo rfl) ImpL.nil))) <| hk 3 (al := [(.str b1), (.fn 161 [] [])]) G9 ((Hz b1 (.fn 161 [] []) B4 (by omega) (fun c => FunV.of (by exact Lu) (M2 c))).of_args (ImpL.cons Imp.refl (ImpL.cons (Imp.clo rfl) ImpL.nil))) <| hk0) v0 c0 ?_
       refine Ad ?_
       refine Aa [] [2, 3, 5, 7, 15, 16, 122] ?_
       refine A6 (p := (A8 B4 b1 : Int) = 0) (by kernel_rfl) (fun c10 => ?_) (fun c10 => ?_)
       ·refine Aa [] [4] ?_
        refine Ag ?_
        refine RK wR [(.int .i64 (-1))] ?_
        refine Same.of_eq ?_
        simp only [Ak]
        try simp only [List.take_length, List.drop_zero] at *
        rw [fl0_4, e0]
        congr 1
        symm
        unfold E6
        rw [if_neg (by simp [c1.1, c1.2]), if_neg (by simp [c3.1, c3.2]), if_neg (by simp [c6.1, c6.2]), if_neg (by simp [c7]), if_pos (by omega)]
       ·refine Ai ?_
        refine Ad ?_
        refine Cq (CS := [(2, (0 ≤ (0 : Int) ∧ (0 : Int) ≤ (A8 B4 a1 : Int) ∧ (A8 B4 a1 : Int) ≤ (a1.length : Int))), (5, (0 ≤ (0 : Int) ∧ (0 : Int) ≤ (A8 B4 b1 : Int) ∧ (A8 B4 b1 : Int) ≤ (b1.length : Int)))]) [] [2, 3, 5, 7, 15, 16, 17] [] (hk 6 Q0g (Q3k ((a1.take (A8 B4 a1)).drop 0) ((b1.take (A8 B4 b1)).drop 0)) <| hk0) v0 (by refine cc _ ?_ <| cc _ ?_ c0 <;> omega) ?_
        refine Aa [] [2, 3, 5, 7, 15, 16, 17, 131] ?_
        refine Da (p := (Lib.compareBytes ((a1.take (A8 B4 a1)).drop 0) ((b1.take (A8 B4 b1)).drop 0)) = 0) (by kernel_rfl) (fun c11 => ?_) (fun c11 => ?_)
        ·refine Aa [] [4] ?_
         refine Ag ?_
         refine RK wR [(.int .i64 (Lib.compareBytes ((a1.take (A8 B4 a1)).drop 0) ((b1.take (A8 B4 b1)).drop 0)))] ?_
         refine Same.of_eq ?_
         simp only [Ak]
         try simp only [List.take_length, List.drop_zero] at *
         rw [fl0_4, e0]
         congr 1
         symm
         unfold E6
         rw [if_neg (by simp [c1.1, c1.2]), if_neg (by simp [c3.1, c3.2]), if_neg (by simp [c6.1, c6.2]), if_neg (by simp [c7]), if_neg (by omega), if_pos c11]
        ·refine Ai ?_
         refine Cq (CS := [(2, (0 ≤ (A8 B4 a1 : Int) ∧ (A8 B4 a1 : Int) ≤ (a1.length : Int) ∧ (a1.length : Int) ≤ (a1.length : Int))), (5, (0 ≤ (A8 B4 b1 : Int) ∧ (A8 B4 b1 : Int) ≤ (b1.length : Int) ∧ (b1.length : Int) ≤ (b1.length : Int)))]) [] [2, 3, 5, 7] [] hk0 v0 (by refine cc _ ?_ <| cc _ ?_ c0 <;> omega) ?_
         refine L4 ⟨rfl, _, (by kernel_rfl : gcS _ _ _ = some ⟨[(2, (.ptr 0 0)), (3, (.ptr 1 0)), (5, (.fn 216 [] [(.ptr 0 0), (.ptr 1 0)])), (7, (.fn 218 [] [(.fp (.agg [(.fn 217 [] [])]))]))], [(0, (.row [(.str ((a1.take a1.length).drop (A8 B4 a1)))] 9)), (1, (.row [(.str ((b1.take b1.length).drop (A8 B4 b1)))] 9))], 3⟩), _, ?_, k, ((a1.take a1.length).drop (A8 B4 a1)), ((b1.take b1.length).drop (A8 B4 b1)), ?_, ?_, ?_, ?_, (by kernel_rfl), rfl⟩
         all_goals (try simp only [List.take_length, List.drop_zero, List.length_drop] at *)
         have hml : B4 (Aq a1 0) = true := by
          rcases hma with q | q
          ·exact absurd q c6.1
          ·exact Q71 q (by omega) (by simp_all) (by simp_all) (by simp_all)
         have h3 := Tk (p := B4) (s := a1) (by omega) hml
         ·omega
         ·omega
         ·omega
         ·omega
         ·rw [fl0_4, e0]
          unfold E6
          rw [if_neg (by simp [c1.1, c1.2]), if_neg (by simp [c3.1, c3.2]), if_neg (by simp [c6.1, c6.2]), if_neg (by simp [c7]), if_neg (by omega), if_neg (fun q => q c11)]
end Sv
end Go.Proofs.YtlmloohlmlahfaaGreatDoor
end
section
namespace Go.Proofs.YtlmloohlmlahfaaGreatDoor
open Go Go.RowKit
namespace Sv
attribute [local irreducible] SW SO Bn
set_option maxHeartbeats 1000000
set_option maxRecDepth 100000
theorem Q0o : Au Tryz.prog 143 := Ay Tryz.func143 (by kernel_rfl) rfl
def Jb (a b : List UInt8) : Int := Ga (a.length + b.length + 1) a b
def Hl (a b : List UInt8) : Int := H6 (a.length + b.length + 1) a b
theorem Q05 (a b : List UInt8) (ha : a.length ≤ 4194304) (hb : b.length ≤ 4194304) : FnV Tryz.prog 178 [.str a, .str b] (.int .i64 (Jb a b)) := X1z _ a b (by omega) ha hb
theorem Vo (a b : List UInt8) (ha : a.length ≤ 4194304) (hb : b.length ≤ 4194304) : FnV Tryz.prog 180 [.str a, .str b] (.int .i64 (Hl a b)) := Q5d _ a b (by omega) ha hb
theorem W8 {a : List UInt8} (h : a.length ≤ 4194304) : (orS a [48]).length ≤ 4194304 := by unfold orS; split <;> simp [h]
def Cm (k : Int) (a b : (List UInt8 × List UInt8 × List UInt8)) : Int × Int :=
 if k = 2 then (orI (Dz a.1 b.1) (Jb a.2.1 b.2.1), Jb (orS a.2.2 [48]) (orS b.2.2 [48]))
 else if a.2.2 = [] ∨ b.2.2 = [] then (orI (Dz a.1 b.1) (Hl a.2.1 b.2.1), Fj (!decide (a.2.2 = [])) (!decide (b.2.2 = [])) 1)
 else (orI (Dz a.1 b.1) (Hl a.2.1 b.2.1), Hl a.2.2 b.2.2)
def O4 (a b : List UInt8) (c d : Int) : Int := if c = 0 ∧ ¬ a = [] ∧ ¬ b = [] then d else c
def J2 (c op o : Int) : Bool :=
 if c < 0 then !decide (Go.bits .and .i64 op 4 = 0) || !decide (Go.bits .and .i64 o 1 = 0)
 else if 0 < c then !decide (Go.bits .and .i64 op 1 = 0) || !decide (Go.bits .and .i64 o 4 = 0)
 else !decide (Go.bits .and .i64 op o = 0)
def J1 (k : Int) (a b : List UInt8) : Int := O4 (Bi k a b).1.2.2 (Bi k a b).2.1.2.2 (Cm k (Bi k a b).1 (Bi k a b).2.1).1 (Cm k (Bi k a b).1 (Bi k a b).2.1).2
def Ab (k op : Int) (a : List UInt8) (o : Int) (b : List UInt8) : Bool × Int :=
 if (¬ k = 1 ∧ ¬ k = 2) ∨ op < 0 ∨ 7 < op ∨ o < 0 ∨ 7 < o then (false, 1)
 else if op = 0 ∨ o = 0 then (true, 0)
 else if ¬ (Bi k a b).2.2 = 0 then (false, (Bi k a b).2.2)
 else (J2 (J1 k a b) op o, 0)
theorem Zu (l : List UInt8) : (Co l).1.length ≤ l.length ∧ (Co l).2.1.length ≤ l.length ∧ (Co l).2.2.length ≤ l.length := by
 unfold Co
 split
 ·unfold Nb
  refine ⟨?_, ?_, ?_⟩
  ·show (if _ then _ else _ : List UInt8).length ≤ _
   split <;> simp; omega
  ·show (if _ then _ else _ : List UInt8).length ≤ _
   split <;> (try rw [List.length_take]) <;> split <;> simp <;> omega
  ·show (if _ then _ else _ : List UInt8).length ≤ _
   split <;> (try rw [List.length_drop]) <;> (try split) <;> simp <;> omega
 ·simp
theorem Q1s (k : Int) (a b : List UInt8) : (Bi k a b).1.1.length ≤ a.length ∧ (Bi k a b).1.2.1.length ≤ a.length ∧ (Bi k a b).1.2.2.length ≤ a.length ∧ (Bi k a b).2.1.1.length ≤ b.length ∧ (Bi k a b).2.1.2.1.length ≤ b.length ∧ (Bi k a b).2.1.2.2.length ≤ b.length := by
 have h1 := Zu a
 have h2 := Zu b
 unfold Bi
 split
 ·simp
 ·split <;> simp <;> omega
theorem Wi (k : Int) (a b : (List UInt8 × List UInt8 × List UInt8)) (ha : a.1.length ≤ 4194304 ∧ a.2.1.length ≤ 4194304 ∧ a.2.2.length ≤ 4194304) (hb : b.1.length ≤ 4194304 ∧ b.2.1.length ≤ 4194304 ∧ b.2.2.length ≤ 4194304) :
  FnV Tryz.prog 143 [(.int .i64 k), (.agg [(.str a.1), (.str a.2.1), (.str a.2.2)]), (.agg [(.str b.1), (.str b.2.1), (.str b.2.2)])] (.tup [.int .i64 (Cm k a b).1, .int .i64 (Cm k a b).2]) := by
 refine A4 [.tmp 6, .tmp 7] Tryz.func143 rfl Tryz.ntmps143 rfl rfl (fun B F hF => ?_)
 refine Ah [] [0, 4, 5] [(1, 4), (2, 5)] hk0 v0 c0 ?_
 refine Ah [] [0, 4, 5, 8] [] (hk 4 S8 (Ru a.1 b.1) <| hk0) v0 c0 ?_
 refine Ad ?_
 refine Aa [] [4, 5, 8, 15] ?_
 refine A6 (p := k = 2) (by kernel_rfl) (fun c1 => ?_) (fun c1 => ?_)
 ·refine Cq [] [6, 7] [(7, 22), (11, 26), (15, 30)] (hk 5 Q0k (Q05 a.2.1 b.2.1 (by omega) (by omega)) <| hk 7 Pr (Ox (Dz a.1 b.1) (Jb a.2.1 b.2.1)) <| hk 11 Q0j (W7 a.2.2 [48]) <| hk 15 Q0j (W7 b.2.2 [48]) <| hk 16 Q0k (Q05 (orS a.2.2 [48]) (orS b.2.2 [48]) (by exact W8 (by first | exact ha.2.2 | exact hb.2.2)) (by exact W8 (by first | exact ha.2.2 | exact hb.2.2))) <| hk0) (vk 7 22 (b := (Af [Dz a.1 b.1, Jb a.2.1 b.2.1])) (Imp.list (f := AV.int .i64) rfl) <| vk 11 26 (b := (C3 ([a.2.2, [48]]))) (Imp.list (f := AV.str) rfl) <| vk 15 30 (b := (C3 ([b.2.2, [48]]))) (Imp.list (f := AV.str) rfl) <| v0) c0 ?_
  refine Ag ?_
  refine RK wR [(.int .i64 (orI (Dz a.1 b.1) (Jb a.2.1 b.2.1))), (.int .i64 (Jb (orS a.2.2 [48]) (orS b.2.2 [48])))] ?_
  refine Same.of_eq ?_
  simp only [Ak]
  unfold Cm
  rw [if_pos c1]
 ·refine Ai ?_
  refine Ah [] [4, 5, 8] [(7, 39)] (hk 5 Q0i (Vo a.2.1 b.2.1 (by omega) (by omega)) <| hk 7 Pr (Ox (Dz a.1 b.1) (Hl a.2.1 b.2.1)) <| hk0) (vk 7 39 (b := (Af [Dz a.1 b.1, Hl a.2.1 b.2.1])) (Imp.list (f := AV.int .i64) rfl) <| v0) c0 ?_
  refine Ad ?_
  refine Ah (CS := [(5, ((!(decide (a.2.2 = []))) = true → (!(decide (a.2.2 = []))) = true)), (6, ((!(decide (a.2.2 = []))) = true → (!(decide (a.2.2 = []))) = true)), (7, ((decide (a.2.2 = [])) = false → (!(decide (a.2.2 = []))) = true))]) [45, 46, 47] [4, 5, 8, 48] [] hk0 v0 (by refine cc _ ?_ <| cc _ ?_ <| cc _ ?_ c0 <;> simp) ?_
  refine Bd (q := (decide (a.2.2 = [])) || (decide (b.2.2 = []))) (by kernel_rfl) (fun c2 => ?_) (fun c2 => ?_)
  ·try simp only [Ao] at c2
   refine Ah [] [6, 7] [] (hk 7 Pq (Ov (!decide (a.2.2 = [])) (!decide (b.2.2 = [])) 1 (by omega)) <| hk0) v0 c0 ?_
   refine Ag ?_
   refine RK wR [(.int .i64 (orI (Dz a.1 b.1) (Hl a.2.1 b.2.1))), (.int .i64 (Fj (!decide (a.2.2 = [])) (!decide (b.2.2 = [])) 1))] ?_
   refine Same.of_eq ?_
   simp only [Ak]
   unfold Cm
   rw [if_neg c1, if_pos c2]
  ·try simp only [Ao] at c2
   refine Ai ?_
   refine Ah [] [6, 7] [] (hk 5 Q0i (Vo a.2.2 b.2.2 (by omega) (by omega)) <| hk0) v0 c0 ?_
   refine Ag ?_
   refine RK wR [(.int .i64 (orI (Dz a.1 b.1) (Hl a.2.1 b.2.1))), (.int .i64 (Hl a.2.2 b.2.2))] ?_
   refine Same.of_eq ?_
   simp only [Ak]
   unfold Cm
   rw [if_neg c1, if_neg (by simp [c2.1, c2.2])]
theorem Q7y (k op : Int) (a : List UInt8) (o : Int) (b : List UInt8) (ha : a.length ≤ 4194304) (hb : b.length ≤ 4194304) :
  FnV Tryz.prog 170 [(.int .i64 k), (.int .i64 op), (.str a), (.int .i64 o), (.str b)] (.tup [.bool (Ab k op a o b).1, .int .i64 (Ab k op a o b).2]) := by
 have hbl := Q1s k a b
 refine A4 [.tmp 10, .tmp 11] Tryz.func170 rfl Tryz.ntmps170 rfl rfl (fun B F hF => ?_)
 refine Aa [] [0, 1, 2, 3, 4] ?_
 refine Ad ?_
 refine A1 ?_
 refine Ah (CS := [(4, ((!decide (k = 1)) = true → (!decide (k = 1)) = true)), (5, ((!decide (k = 1)) = true → (!decide (k = 1)) = true)), (8, ((!((!decide (k = 1)) && (!decide (k = 2)))) = true → (!((!decide (k = 1)) && (!decide (k = 2)))) = true)), (9, (((!decide (k = 1)) && (!decide (k = 2))) = false → (!((!decide (k = 1)) && (!decide (k = 2)))) = true)), (12, ((!(((!decide (k = 1)) && (!decide (k = 2))) || (decide (op < 0)))) = true → (!(((!decide (k = 1)) && (!decide (k = 2))) || (decide (op < 0)))) = true)), (13, ((((!decide (k = 1)) && (!decide (k = 2))) || (decide (op < 0))) = false → (!(((!decide (k = 1)) && (!decide (k = 2))) || (decide (op < 0)))) = true)), (16, ((!((((!decide (k = 1)) && (!decide (k = 2))) || (decide (op < 0))) || (decide (7 < op)))) = true → (!((((!decide (k = 1)) && (!decide (k = 2))) || (decide (op < 0))) || (decide (7 < op)))) = true)), (17, (((((!decide (k = 1)) && (!decide (k = 2))) || (decide (op < 0))) || (decide (7 < op))) = false → (!((((!decide (k = 1)) && (!decide (k = 2))) || (decide (op < 0))) || (decide (7 < op)))) = true)), (20, ((!(((((!decide (k = 1)) && (!decide (k = 2))) || (decide (op < 0))) || (decide (7 < op))) || (decide (o < 0)))) = true → (!(((((!decide (k = 1)) && (!decide (k = 2))) || (decide (op < 0))) || (decide (7 < op))) || (decide (o < 0)))) = true)), (21, ((((((!decide (k = 1)) && (!decide (k = 2))) || (decide (op < 0))) || (decide (7 < op))) || (decide (o < 0))) = false → (!(((((!decide (k = 1)) && (!decide (k = 2))) || (decide (op < 0))) || (decide (7 < op))) || (decide (o < 0)))) = true))]) [21, 22, 25, 26, 29, 30, 33, 34, 37, 38] [0, 1, 2, 3, 4, 17] [] hk0 v0 (by refine cc _ ?_ <| cc _ ?_ <| cc _ ?_ <| cc _ ?_ <| cc _ ?_ <| cc _ ?_ <| cc _ ?_ <| cc _ ?_ <| cc _ ?_ <| cc _ ?_ c0 <;> first | omega | (simp; omega) | (simp; done) | (intros; simp_all; omega) | (intros; simp_all; done)) ?_
 refine Bd (q := (((((!decide (k = 1)) && (!decide (k = 2))) || (decide (op < 0))) || (decide (7 < op))) || (decide (o < 0))) || (decide (7 < o))) (by kernel_rfl) (fun c1 => ?_) (fun c1 => ?_)
 ·try simp only [Ao] at c1
  refine Aa [] [10, 11] ?_
  refine Ag ?_
  refine RK wR [(.bool false), (.int .i64 1)] ?_
  refine Same.of_eq ?_
  simp only [Ak]
  rw [show Ab k op a o b = (false, 1) from by unfold Ab; rw [if_pos (by omega)]]
 ·try simp only [Ao] at c1
  refine Ah (CS := [(4, ((!(decide (op = 0))) = true → (!(decide (op = 0))) = true)), (5, ((decide (op = 0)) = false → (!(decide (op = 0))) = true))]) [44, 45] [0, 1, 2, 3, 4, 40] [] hk0 v0 (by refine cc _ ?_ <| cc _ ?_ c0 <;> simp) ?_
  refine Bd (q := (decide (op = 0)) || (decide (o = 0))) (by kernel_rfl) (fun c2 => ?_) (fun c2 => ?_)
  ·try simp only [Ao] at c2
   refine Aa [] [10, 11] ?_
   refine Ag ?_
   refine RK wR [(.bool true), (.int .i64 0)] ?_
   refine Same.of_eq ?_
   simp only [Ak]
   rw [show Ab k op a o b = (true, 0) from by unfold Ab; rw [if_neg (by omega), if_pos (by omega)]]
  ·try simp only [Ao] at c2
   refine Ai ?_
   refine Ah [] [0, 1, 3, 12, 13, 14] [(11, 12), (12, 13)] (hk 3 Q0p (Q1o k a b (by omega) (by omega)) <| hk0) v0 c0 ?_
   refine Ad ?_
   refine Aa [] [0, 1, 3, 12, 13, 14, 56] ?_
   refine Da (p := ((Bi k a b).2.2) = 0) (by kernel_rfl) (fun c3 => ?_) (fun c3 => ?_)
   ·refine Aa [] [10, 11] ?_
    refine Ag ?_
    refine RK wR [(.bool false), (.int .i64 ((Bi k a b).2.2))] ?_
    refine Same.of_eq ?_
    simp only [Ak]
    rw [show Ab k op a o b = (false, (Bi k a b).2.2) from by unfold Ab; rw [if_neg (by omega), if_neg (by omega), if_pos (by omega)]]
   ·refine Ai ?_
    refine Ah [] [1, 3, 12, 13, 15, 16] [] (hk 3 Q0o (Wi k (Bi k a b).1 (Bi k a b).2.1 ⟨by omega, by omega, by omega⟩ ⟨by omega, by omega, by omega⟩) <| hk0) v0 c0 ?_
    refine Dt (fun y => ∃ (c : Int), c = O4 (Bi k a b).1.2.2 (Bi k a b).2.1.2.2 (Cm k (Bi k a b).1 (Bi k a b).2.1).1 (Cm k (Bi k a b).1 (Bi k a b).2.1).2 ∧ y = ⟨[(1, (.int .i64 op)), (3, (.int .i64 o)), (15, (.int .i64 c))], [], 2⟩) [1, 3, 15] 2 (by omega) ?_ ?_
    ·refine Ah (CS := [(4, ((decide (((Cm k (Bi k a b).1 (Bi k a b).2.1).1) = 0)) = true → (decide (((Cm k (Bi k a b).1 (Bi k a b).2.1).1) = 0)) = true)), (5, ((decide (((Cm k (Bi k a b).1 (Bi k a b).2.1).1) = 0)) = true → (decide (((Cm k (Bi k a b).1 (Bi k a b).2.1).1) = 0)) = true)), (6, ((decide (((Cm k (Bi k a b).1 (Bi k a b).2.1).1) = 0)) = true → (decide (((Cm k (Bi k a b).1 (Bi k a b).2.1).1) = 0)) = true)), (9, (((decide (((Cm k (Bi k a b).1 (Bi k a b).2.1).1) = 0)) && (!decide (((Bi k a b).1).2.2 = []))) = true → ((decide (((Cm k (Bi k a b).1 (Bi k a b).2.1).1) = 0)) && (!decide (((Bi k a b).1).2.2 = []))) = true)), (10, (((decide (((Cm k (Bi k a b).1 (Bi k a b).2.1).1) = 0)) && (!decide (((Bi k a b).1).2.2 = []))) = true → ((decide (((Cm k (Bi k a b).1 (Bi k a b).2.1).1) = 0)) && (!decide (((Bi k a b).1).2.2 = []))) = true)), (11, (((decide (((Cm k (Bi k a b).1 (Bi k a b).2.1).1) = 0)) && (!decide (((Bi k a b).1).2.2 = []))) = true → ((decide (((Cm k (Bi k a b).1 (Bi k a b).2.1).1) = 0)) && (!decide (((Bi k a b).1).2.2 = []))) = true))]) [68, 69, 70, 73, 74, 75] [1, 3, 15, 16, 76] [] hk0 v0 (by refine cc _ ?_ <| cc _ ?_ <| cc _ ?_ <| cc _ ?_ <| cc _ ?_ <| cc _ ?_ c0 <;> simp) ?_
     refine Bd (q := ((decide (((Cm k (Bi k a b).1 (Bi k a b).2.1).1) = 0)) && (!decide (((Bi k a b).1).2.2 = []))) && (!decide (((Bi k a b).2.1).2.2 = []))) (by kernel_rfl) (fun c4 => ?_) (fun c4 => ?_)
     ·try simp only [Ao] at c4
      refine Ap ?_
      refine Fv [] [1, 3, 15] ?_
      refine ⟨by kernel_rfl, ((Cm k (Bi k a b).1 (Bi k a b).2.1).2), ?_, (by kernel_rfl)⟩
      unfold O4
      rw [if_pos (by simp_all)]
     ·try simp only [Ao] at c4
      refine Ai ?_
      refine ⟨by kernel_rfl, ((Cm k (Bi k a b).1 (Bi k a b).2.1).1), ?_, (by kernel_rfl)⟩
      unfold O4
      rw [if_neg (fun q => by simp [q.1, q.2.1, q.2.2] at c4)]
    ·rintro y1 ⟨c, jc, rfl⟩
     refine Ad ?_
     refine A1 ?_
     refine Aa [] [1, 3, 15, 78] ?_
     refine A6 (p := c < 0) (by kernel_rfl) (fun c5 => ?_) (fun c5 => ?_)
     ·refine Ad ?_
      refine Ap ?_
      refine Bq 1 0 [] [3, 81] [] hk0 v0 c0 ?_
      refine L7 (s' := [(3, (.int .i64 o)), (81, (.int .i64 op)), (82, (.int .i64 (Go.bits .and .i64 op 4)))]) (.int .i64 (Go.bits .and .i64 op 4)) (by kernel_rfl) (No (.inl (by kernel_rfl)) (.inl (by kernel_rfl))) (by kernel_rfl) ?_
      refine Bq 3 2 [85] [84, 85] [] hk0 v0 c0 ?_
      refine Q26 (s' := [(84, (.bool (!decide ((Go.bits .and .i64 op 4) = 0)))), (85, (.cond (!(!decide ((Go.bits .and .i64 op 4) = 0))) (.int .i64 o))), (86, (.cond (!(!decide ((Go.bits .and .i64 op 4) = 0))) (.int .i64 (Go.bits .and .i64 o 1))))]) (q := !(!decide ((Go.bits .and .i64 op 4) = 0))) (.int .i64 (Go.bits .and .i64 o 1)) (by kernel_rfl) (fun cg => (No (.inr ⟨!(!decide ((Go.bits .and .i64 op 4) = 0)), by kernel_rfl, by first | exact cg | simp_all⟩) (.inl (by kernel_rfl)))) (by kernel_rfl) ?_
      refine Av (CS := [(6, ((!(!decide ((Go.bits .and .i64 op 4) = 0))) = true → (!(!decide ((Go.bits .and .i64 op 4) = 0))) = true)), (7, ((!decide ((Go.bits .and .i64 op 4) = 0)) = false → (!(!decide ((Go.bits .and .i64 op 4) = 0))) = true))]) 6 [87] [10, 11] [] hk0 v0 (by refine cc _ ?_ <| cc _ ?_ c0 <;> simp) ?_
      refine Ag ?_
      refine RK wR [(.bool ((!decide ((Go.bits .and .i64 op 4) = 0)) || (!decide ((Go.bits .and .i64 o 1) = 0)))), (.int .i64 0)] ?_
      refine Same.of_eq ?_
      simp only [Ak]
      rw [show Ab k op a o b = (J2 (J1 k a b) op o, 0) from by unfold Ab; rw [if_neg (by omega), if_neg (by omega), if_neg (by omega)]]
      rw [show J1 k a b = c from jc.symm]
      unfold J2
      rw [if_pos (by omega)]
     ·refine Aa [] [1, 3, 89] ?_
      refine A6 (p := 0 < c) (by kernel_rfl) (fun c6 => ?_) (fun c6 => ?_)
      ·refine Ad ?_
       refine Ap ?_
       refine Bq 1 0 [] [3, 92] [] hk0 v0 c0 ?_
       refine L7 (s' := [(3, (.int .i64 o)), (92, (.int .i64 op)), (93, (.int .i64 (Go.bits .and .i64 op 1)))]) (.int .i64 (Go.bits .and .i64 op 1)) (by kernel_rfl) (No (.inl (by kernel_rfl)) (.inl (by kernel_rfl))) (by kernel_rfl) ?_
       refine Bq 3 2 [96] [95, 96] [] hk0 v0 c0 ?_
       refine Q26 (s' := [(95, (.bool (!decide ((Go.bits .and .i64 op 1) = 0)))), (96, (.cond (!(!decide ((Go.bits .and .i64 op 1) = 0))) (.int .i64 o))), (97, (.cond (!(!decide ((Go.bits .and .i64 op 1) = 0))) (.int .i64 (Go.bits .and .i64 o 4))))]) (q := !(!decide ((Go.bits .and .i64 op 1) = 0))) (.int .i64 (Go.bits .and .i64 o 4)) (by kernel_rfl) (fun cg => (No (.inr ⟨!(!decide ((Go.bits .and .i64 op 1) = 0)), by kernel_rfl, by first | exact cg | simp_all⟩) (.inl (by kernel_rfl)))) (by kernel_rfl) ?_
       refine Av (CS := [(6, ((!(!decide ((Go.bits .and .i64 op 1) = 0))) = true → (!(!decide ((Go.bits .and .i64 op 1) = 0))) = true)), (7, ((!decide ((Go.bits .and .i64 op 1) = 0)) = false → (!(!decide ((Go.bits .and .i64 op 1) = 0))) = true))]) 6 [98] [10, 11] [] hk0 v0 (by refine cc _ ?_ <| cc _ ?_ c0 <;> simp) ?_
       refine Ag ?_
       refine RK wR [(.bool ((!decide ((Go.bits .and .i64 op 1) = 0)) || (!decide ((Go.bits .and .i64 o 4) = 0)))), (.int .i64 0)] ?_
       refine Same.of_eq ?_
       simp only [Ak]
       rw [show Ab k op a o b = (J2 (J1 k a b) op o, 0) from by unfold Ab; rw [if_neg (by omega), if_neg (by omega), if_neg (by omega)]]
       rw [show J1 k a b = c from jc.symm]
       unfold J2
       rw [if_neg (by omega), if_pos (by omega)]
      ·refine Ai ?_
       refine Ad ?_
       refine Ap ?_
       refine Bq 2 0 [] [100, 101] [] hk0 v0 c0 ?_
       refine L7 (s' := [(100, (.int .i64 op)), (101, (.int .i64 o)), (102, (.int .i64 (Go.bits .and .i64 op o)))]) (.int .i64 (Go.bits .and .i64 op o)) (by kernel_rfl) (No (.inl (by kernel_rfl)) (.inl (by kernel_rfl))) (by kernel_rfl) ?_
       refine Av 3 [] [10, 11] [] hk0 v0 c0 ?_
       refine Ag ?_
       refine RK wR [(.bool (!decide ((Go.bits .and .i64 op o) = 0))), (.int .i64 0)] ?_
       refine Same.of_eq ?_
       simp only [Ak]
       rw [show Ab k op a o b = (J2 (J1 k a b) op o, 0) from by unfold Ab; rw [if_neg (by omega), if_neg (by omega), if_neg (by omega)]]
       rw [show J1 k a b = c from jc.symm]
       unfold J2
       rw [if_neg (by omega), if_neg (by omega)]
theorem X9 : H1 Ab := fun k op a o b ha hb => Q7y k op a o b ha hb
end Sv
end Go.Proofs.YtlmloohlmlahfaaGreatDoor
end
