/- The texts Pool2, Pool3, Pool4, Pool5, Pool6, Pool7 of the proof, joined. Each says at its theorems what it proves. -/
import Derived.Test.YtlfjokcbkopfeaaGreatDoorJ2
set_option linter.unusedSimpArgs false
set_option linter.unusedVariables false
section
namespace Go.Proofs.YtlfjokcbkopfeaaGreatDoor
open Go Go.RowKit
namespace Sv
attribute [local irreducible] SW SO holds
theorem en_155 : Enters Tryz.prog 155 := enters_of Tryz.func155 (by kernel_rfl) rfl
theorem en_104 : Enters Tryz.prog 104 := enters_of Tryz.func104 (by kernel_rfl) rfl
theorem en_156 : Enters Tryz.prog 156 := enters_of Tryz.func156 (by kernel_rfl) rfl
theorem en_106 : Enters Tryz.prog 106 := enters_of Tryz.func106 (by kernel_rfl) rfl
theorem en_100 : Enters Tryz.prog 100 := enters_of Tryz.func100 (by kernel_rfl) rfl
theorem en_46 : Enters Tryz.prog 46 := enters_of Tryz.func46 (by kernel_rfl) rfl
theorem en_91 : Enters Tryz.prog 91 := enters_of Tryz.func91 (by kernel_rfl) rfl
theorem en_102 : Enters Tryz.prog 102 := enters_of Tryz.func102 (by kernel_rfl) rfl
theorem en_141 : Enters Tryz.prog 141 := enters_of Tryz.func141 (by kernel_rfl) rfl
theorem en_22 : Enters Tryz.prog 22 := enters_of Tryz.func22 (by kernel_rfl) rfl
theorem en_52 : Enters Tryz.prog 52 := enters_of Tryz.func52 (by kernel_rfl) rfl
theorem en_103 : Enters Tryz.prog 103 := enters_of Tryz.func103 (by kernel_rfl) rfl
theorem en_50 : Enters Tryz.prog 50 := enters_of Tryz.func50 (by kernel_rfl) rfl
theorem en_97 : Enters Tryz.prog 97 := enters_of Tryz.func97 (by kernel_rfl) rfl
theorem en_98 : Enters Tryz.prog 98 := enters_of Tryz.func98 (by kernel_rfl) rfl
theorem en_99 : Enters Tryz.prog 99 := enters_of Tryz.func99 (by kernel_rfl) rfl
theorem en_101 : Enters Tryz.prog 101 := enters_of Tryz.func101 (by kernel_rfl) rfl
theorem en_105 : Enters Tryz.prog 105 := enters_of Tryz.func105 (by kernel_rfl) rfl
theorem en_142 : Enters Tryz.prog 142 := enters_of Tryz.func142 (by kernel_rfl) rfl
theorem en_143 : Enters Tryz.prog 143 := enters_of Tryz.func143 (by kernel_rfl) rfl
theorem en_177 : Enters Tryz.prog 177 := enters_of Tryz.func177 (by kernel_rfl) rfl
theorem en_144 : Enters Tryz.prog 144 := enters_of Tryz.func144 (by kernel_rfl) rfl
theorem en_145 : Enters Tryz.prog 145 := enters_of Tryz.func145 (by kernel_rfl) rfl
theorem en_92 : Enters Tryz.prog 92 := enters_of Tryz.func92 (by kernel_rfl) rfl
set_option maxHeartbeats 400000 in
set_option maxRecDepth 100000 in
theorem strF_idx (l : List (List UInt8)) (a : AV) (p : (List UInt8) → Bool) (hl : l.length ≤ 4611686018427387904) (ha : ∀ i, i < l.length → FunV Tryz.prog a [(.str (nth l i))] (.bool (p (nth l i)))) :
  FnV Tryz.prog 155 [(strs l), (.clo a)] (.int .i64 (idxF p l)) := by
 refine FnV_intro [.tmp 4] Tryz.func155 rfl Tryz.ntmps155 rfl rfl (fun B F hF => ?_)
 refine SW_P [] [0, 1] ?_
 refine SW_seq ?_
 refine SW_P [] [0, 1, 7, 8] ?_
 refine SW_block ?_
 refine SW_L (fun g y => ∃ (i : Nat), i ≤ l.length ∧ (∀ j, j < i → p (nth l j) = false) ∧ y = ⟨[(0, (strs l)), (1, (.clo a)), (7, (.int .i64 ((l.length : Int)))), (8, (.int .i64 ((i : Int))))], [], 0⟩ ∧ g = l.length - i) [0, 1, 7, 8] 0 _ (by omega) ⟨0, (by omega), (by exact fun j hj => by omega), (by kernel_rfl), rfl⟩ ?_
 rintro g1 y1 ⟨i, f1_1, f1_2, rfl, rfl⟩
 refine SW_P [] [0, 1, 7, 8, 9] ?_
 refine SW_seq ?_
 refine SW_if (p := (i : Int) < (l.length : Int)) (by kernel_rfl) (fun c1 => ?_) (fun c1 => ?_)
 ·refine SW_skip ?_
  refine SW_seq ?_
  refine SW_block ?_
  refine SW_P [] [0, 1, 5, 7, 8] ?_
  refine SW_seq ?_
  refine SW_reg ?_
  refine SO_H 5 0 [] [0, 1, 5, 7, 8, 11, 15] [] hk0 v0 (cc 3 (p := (0 ≤ (i : Int) ∧ i < l.length)) (by first | omega | (simp; omega) | (simp; done) | (intros; simp_all; omega) | (intros; simp_all; done)) <| c0) ?_
  refine SO_callA (s' := [(0, (strs l)), (1, (.clo a)), (5, (.int .i64 ((i : Int)))), (7, (.int .i64 ((l.length : Int)))), (8, (.int .i64 ((i : Int)))), (11, (.clo a)), (15, (.str (nth l i))), (16, (.bool (p (nth l i))))]) (a := (.clo a)) (al := [(.str (nth l i))]) (r := (.bool (p (nth l i)))) (by kernel_rfl) (by kernel_rfl) (by kernel_rfl) (by kernel_rfl) (by kernel_rfl) ((ha i (by omega)).clo) (by kernel_rfl) ?_
  refine SO_nil ?_
  refine SW_cond (q := p (nth l i)) (by kernel_rfl) (fun c2 => ?_) (fun c2 => ?_)
  ·try simp only [Bool.and_eq_true, Bool.or_eq_true, Bool.and_eq_false_iff, Bool.or_eq_false_iff, Bool.not_eq_true', Bool.not_eq_false', decide_eq_true_eq, decide_eq_false_iff_not] at c2
   refine SW_P [] [4] ?_
   refine SW_ret ?_
   refine RK wR [(.int .i64 ((i : Int)))] ?_
   exact Same.of_eq (by rw [idxF_at (by omega) f1_2 (by simp_all)]; rfl)
  ·try simp only [Bool.and_eq_true, Bool.or_eq_true, Bool.and_eq_false_iff, Bool.or_eq_false_iff, Bool.not_eq_true', Bool.not_eq_false', decide_eq_true_eq, decide_eq_false_iff_not] at c2
   refine SW_skip ?_
   refine SW_reg ?_
   refine SO_HA 0 [] [0, 1, 7, 8] [] hk0 v0 (cc 0 (p := (-9223372036854775808 ≤ (i : Int) + 1 ∧ (i : Int) + 1 ≤ 9223372036854775807)) (by first | omega | (simp; omega) | (simp; done) | (intros; simp_all; omega) | (intros; simp_all; done)) <| c0) ?_
   refine ⟨by kernel_rfl, _, ?_, i + 1, ?_, ?_, (by kernel_rfl), rfl⟩
   ·omega
   ·omega
   ·intro j hj
    by_cases h : j = i
    ·subst h; simp_all
    ·exact f1_2 j (by omega)
 ·refine SW_exit ?_
  refine SW_P [] [4] ?_
  refine SW_ret ?_
  refine RK wR [(.int .i64 (-1))] ?_
  exact Same.of_eq (by rw [idxF_no (fun j hj => f1_2 j (by omega))]; rfl)
set_option maxHeartbeats 400000 in
set_option maxRecDepth 100000 in
theorem strF_has (l : List (List UInt8)) (a : AV) (p : (List UInt8) → Bool) (hl : l.length ≤ 4611686018427387904) (ha : ∀ i, i < l.length → FunV Tryz.prog a [(.str (nth l i))] (.bool (p (nth l i)))) :
  FnV Tryz.prog 104 [(strs l), (.clo a)] (.bool (l.any p)) := by
 refine FnV_intro [.tmp 4] Tryz.func104 rfl Tryz.ntmps104 rfl rfl (fun B F hF => ?_)
 refine SW_P [] [0, 1] ?_
 refine SW_H [] [4] [] (hk 2 en_155 (strF_idx l a p hl ha) <| hk0) v0 c0 ?_
 refine SW_ret ?_
 refine RK wR [(.bool (decide (0 ≤ (idxF p l))))] ?_
 exact Same.of_eq (by simp only [pack]; rw [idxF_any])
def depOk (i : Nat) (d : DepT) : Bool := decide (checkE d = 0) && ((!(i == 0 || i == 4)) || decide (d.kind = 1)) && ((!(i == 0)) || decide (d.op = 0) || decide (d.op = 2))
def listOk (i : Nat) (l : List DepT) : Bool := decide (l.length ≤ 16) && l.all (depOk i)
def depsB (p : PkgT) : Bool := listOk 0 p.provides && listOk 1 p.requires && listOk 2 p.pre && listOk 3 p.conflicts && listOk 4 p.obsoletes && listOk 5 p.recommends && listOk 6 p.supplements
theorem all_nth {α : Type} [Inhabited α] {p : α → Bool} {l : List α} : l.all p = true ↔ ∀ j, j < l.length → p (nth l j) = true := by
 constructor
 ·intro h j hj
  rw [show nth l j = l[j] by simp [nth, hj]]; exact List.all_eq_true.1 h _ (List.getElem_mem hj)
 ·intro h
  refine List.all_eq_true.2 fun x hx => ?_
  obtain ⟨j, hj, rfl⟩ := List.getElem_of_mem hx
  have := h j hj
  rwa [show nth l j = l[j] by simp [nth, hj]] at this
theorem listOk_mk {i : Nat} {l : List DepT} {k : Nat} (h : l.length ≤ 16) (hk : l.length ≤ k) (h2 : ∀ j, j < k → depOk i (nth l j) = true) : listOk i l = true := by
 unfold listOk
 rw [all_nth.2 fun j hj => h2 j (by omega), decide_eq_true h]; rfl
def PkgT.list (p : PkgT) : Nat → List DepT
 | 0 => p.provides
 | 1 => p.requires
 | 2 => p.pre
 | 3 => p.conflicts
 | 4 => p.obsoletes
 | 5 => p.recommends
 | _ => p.supplements
theorem depsB_no {p : PkgT} (i : Nat) (hi : i < 7) (h : listOk i (PkgT.list p i) = false) : depsB p = false := by
 have : i = 0 ∨ i = 1 ∨ i = 2 ∨ i = 3 ∨ i = 4 ∨ i = 5 ∨ i = 6 := by omega
 rcases this with rfl | rfl | rfl | rfl | rfl | rfl | rfl <;> (unfold depsB; simp only [PkgT.list] at h; simp [h])
theorem depsB_long {p : PkgT} (i : Nat) (hi : i < 7) (h : 16 < (PkgT.list p i).length) : depsB p = false := depsB_no i hi (by unfold listOk; rw [decide_eq_false (by omega)]; rfl)
theorem depsB_bad {p : PkgT} (i : Nat) {j : Nat} (hi : i < 7) (hj : j < (PkgT.list p i).length) (h : depOk i (nth (PkgT.list p i) j) = false) : depsB p = false := depsB_no i hi (by
 unfold listOk
 have : (PkgT.list p i).all (depOk i) = false := by
  cases hq : (PkgT.list p i).all (depOk i) with
  | false => rfl
  | true => rw [all_nth.1 hq j hj] at h; cases h
 rw [this, Bool.and_false])
theorem depsB_yes {p : PkgT} (h0 : listOk 0 p.provides = true) (h1 : listOk 1 p.requires = true) (h2 : listOk 2 p.pre = true) (h3 : listOk 3 p.conflicts = true) (h4 : listOk 4 p.obsoletes = true) (h5 : listOk 5 p.recommends = true) (h6 : listOk 6 p.supplements = true) : depsB p = true := by
 unfold depsB; rw [h0, h1, h2, h3, h4, h5, h6]; rfl
set_option maxHeartbeats 1000000 in
set_option maxRecDepth 100000 in
theorem deps_ok (p : PkgT) (hs : p.depSize ≤ 4194304) :
  FnV Tryz.prog 103 [(pkgX p)] (.bool (depsB p)) := by
 unfold PkgT.depSize at hs
 refine FnV_intro [.tmp 2] Tryz.func103 rfl Tryz.ntmps103 rfl rfl (fun B F hF => ?_)
 refine SW_P [] [1] ?_
 refine SW_seq ?_
 refine SW_seq ?_
 refine SW_reg ?_
 refine SO_inl [.tmp 2] (al := [(.ptr 0 0)]) (s0 := [(1, (.ptr 0 0))]) (by kernel_rfl) (by exact en_107) (by kernel_rfl) Tryz.func107 rfl Tryz.ntmps107 rfl (by kernel_rfl) (by kernel_rfl) (fun F1 hF1 hle1 => ?_)
 refine SW_P [] [0] ?_
 refine SW_D [] [2] [] hk0 v0 c0 ?_
 refine SW_ret ?_
 refine inlK_mk (.inl rfl) (al := [(.sl 1 0 7 7 false)]) (s' := [(1, (.ptr 0 0)), (8, (.sl 1 0 7 7 false))]) (by kernel_rfl) (by kernel_rfl) ?_
 refine SO_HA 1 [] [8, 9, 10] [] hk0 v0 c0 ?_
 refine SW_block ?_
 refine SW_rounds 8 ?_
 refine SR_round ?_
 refine SW_P [] [8, 9, 10, 11] ?_
 refine SW_seq ?_
 refine SW_true (by kernel_rfl) ?_
 refine SW_skip ?_
 refine SW_seq ?_
 refine SW_block ?_
 refine SW_P [] [3, 4, 8, 9, 10] ?_
 refine SW_seq ?_
 refine SW_P [] [3, 4, 8, 9, 10, 19] ?_
 refine SW_if (p := 16 < (p.provides.length : Int)) (by kernel_rfl) (fun c1 => ?_) (fun c1 => ?_)
 ·refine SW_P [] [2] ?_
  refine SW_ret ?_
  refine RK wR [(.bool false)] ?_
  exact Same.of_eq (by rw [depsB_long 0 (by omega) (show 16 < p.provides.length by omega)]; rfl)
 ·refine SW_skip ?_
  refine SW_P [] [3, 8, 9, 10, 22, 23, 24] ?_
  refine SW_block ?_
  refine SW_L (fun g y => ∃ (k0 : Nat), k0 ≤ p.provides.length ∧ (∀ j, j < k0 → depOk 0 (nth p.provides j) = true) ∧ y = ⟨[(3, (.int .i64 0)), (8, (.sl 1 0 7 7 false)), (9, (.int .i64 7)), (10, (.int .i64 0)), (22, (rowOf 5 depX p.provides)), (23, (.int .i64 ((p.provides.length : Int)))), (24, (.int .i64 ((k0 : Int))))], [(0, (.row [(.str p.name), (.str p.evr), (.str p.arch), (.str p.vendor), (rowOf 5 depX p.provides), (rowOf 5 depX p.requires), (rowOf 5 depX p.pre), (rowOf 5 depX p.conflicts), (rowOf 5 depX p.obsoletes), (rowOf 5 depX p.recommends), (rowOf 5 depX p.supplements), (strs p.files)] 38)), (1, (.row [(.ptr 0 4), (.ptr 0 5), (.ptr 0 6), (.ptr 0 7), (.ptr 0 8), (.ptr 0 9), (.ptr 0 10)] 145))], 2⟩ ∧ g = p.provides.length - k0) [3, 8, 9, 10, 22, 23, 24] 2 _ (by omega) ⟨0, (by omega), (by exact fun j hj => by omega), (by kernel_rfl), rfl⟩ ?_
  rintro g2 y2 ⟨k0, f2_1, f2_2, rfl, rfl⟩
  refine SW_P [] [3, 8, 9, 10, 22, 23, 24, 25] ?_
  refine SW_seq ?_
  refine SW_if (p := (k0 : Int) < (p.provides.length : Int)) (by kernel_rfl) (fun c2 => ?_) (fun c2 => ?_)
  ·refine SW_skip ?_
   refine SW_seq ?_
   refine SW_block ?_
   refine SW_H [] [3, 6, 8, 9, 10, 22, 23, 24] [] hk0 v0 (cc 0 (p := (0 ≤ (k0 : Int) ∧ k0 < p.provides.length)) (by first | omega | (simp; omega) | (simp; done) | (intros; simp_all; omega) | (intros; simp_all; done)) <| c0) ?_
   refine SW_H [] [3, 6, 7, 8, 9, 10, 22, 23, 24] [(0, 6)] hk0 v0 c0 ?_
   obtain ⟨b1, hb1⟩ : ∃ b, b = (!(decide (((nth p.provides k0).kind) = 1))) := ⟨_, rfl⟩
   obtain ⟨b2, hb2⟩ : ∃ b, b = (b1 || (!decide ((checkE (nth p.provides k0)) = 0))) := ⟨_, rfl⟩
   refine SW_H (CS := [(4, (!b1) = true → (!b1) = true), (5, ((!b1) = true → (!b1) = true)), (6, (b1 = false → (!b1) = true)), (9, ((!b2) = true → (!b2) = true)), (10, ((!b2) = true → (!b2) = true)), (12, (((!b2) && true) = true → ((!b2) && true) = true)), (13, (((!b2) && true) = true → ((!b2) && true) = true)), (14, ((!b2) = true → ((!b2) = true) ∧ (true = true → ((!b2) && true) = true))), (15, ((!b2) = true → (!b2) = true)), (17, (((!b2) && (!decide (((nth p.provides k0).op) = 0))) = true → ((!b2) && (!decide (((nth p.provides k0).op) = 0))) = true)), (18, (((!b2) && (!decide (((nth p.provides k0).op) = 0))) = true → ((!b2) && (!decide (((nth p.provides k0).op) = 0))) = true)), (19, ((!b2) = true → ((!b2) = true) ∧ ((!decide (((nth p.provides k0).op) = 0)) = true → ((!b2) && (!decide (((nth p.provides k0).op) = 0))) = true))), (20, (b2 = false → (!b2) = true))]) [42, 44, 47, 48, 49, 50, 51, 52, 53, 54, 55, 56, 57, 58] [3, 8, 9, 10, 22, 23, 24, 59] [] (hkg 4 (!b1) en_22 (fun cg => CheckV (nth p.provides k0) (by have := argsSize_nth (l := p.provides) (i := k0) (by omega); omega)) <| hk0) (vk 3 41 (a := .bool (!(decide (((nth p.provides k0).kind) = 1)))) (b := .bool b1) (Imp.of_eq (by rw [hb1])) <| vk 7 45 (a := .bool (b1 || (!decide ((checkE (nth p.provides k0)) = 0)))) (b := .bool b2) (Imp.of_eq (by rw [hb2])) <| v0) (by refine cc _ ?_ <| cc _ ?_ <| cc _ ?_ <| cc _ ?_ <| cc _ ?_ <| cc _ ?_ <| cc _ ?_ <| cc _ ?_ <| cc _ ?_ <| cc _ ?_ <| cc _ ?_ <| cc _ ?_ <| cc _ ?_ c0 <;> first | omega | (simp; omega) | (simp; done) | (intros; simp_all; omega) | (intros; simp_all; done)) ?_
   refine SW_cond (q := b2 || ((!decide (((nth p.provides k0).op) = 0)) && (!decide (((nth p.provides k0).op) = 2)))) (by kernel_rfl) (fun c3 => ?_) (fun c3 => ?_)
   ·subst hb2 hb1
    try simp only [Bool.and_eq_true, Bool.or_eq_true, Bool.and_eq_false_iff, Bool.or_eq_false_iff, Bool.not_eq_true', Bool.not_eq_false', decide_eq_true_eq, decide_eq_false_iff_not] at c3
    refine SW_P [] [2] ?_
    refine SW_ret ?_
    refine RK wR [(.bool false)] ?_
    exact Same.of_eq (by rw [depsB_bad 0 (j := k0) (by omega) (show k0 < p.provides.length by omega) (show depOk 0 (nth p.provides k0) = false by unfold depOk; by_cases a1 : checkE (nth p.provides k0) = 0 <;> by_cases a2 : (nth p.provides k0).kind = 1 <;> by_cases a3 : (nth p.provides k0).op = 0 <;> by_cases a4 : (nth p.provides k0).op = 2 <;> simp_all)]; rfl)
   ·subst hb2 hb1
    try simp only [Bool.and_eq_true, Bool.or_eq_true, Bool.and_eq_false_iff, Bool.or_eq_false_iff, Bool.not_eq_true', Bool.not_eq_false', decide_eq_true_eq, decide_eq_false_iff_not] at c3
    refine SW_skip ?_
    refine SW_reg ?_
    refine SO_HA 0 [] [3, 8, 9, 10, 22, 23, 24] [] hk0 v0 (cc 0 (p := (-9223372036854775808 ≤ (k0 : Int) + 1 ∧ (k0 : Int) + 1 ≤ 9223372036854775807)) (by first | omega | (simp; omega) | (simp; done) | (intros; simp_all; omega) | (intros; simp_all; done)) <| c0) ?_
    refine ⟨by kernel_rfl, _, ?_, k0 + 1, ?_, ?_, (by kernel_rfl), rfl⟩
    ·omega
    ·omega
    ·intro j hj
     by_cases h : j = k0
     ·subst h; unfold depOk; by_cases a1 : checkE (nth p.provides j) = 0 <;> by_cases a2 : (nth p.provides j).kind = 1 <;> by_cases a3 : (nth p.provides j).op = 0 <;> by_cases a4 : (nth p.provides j).op = 2 <;> simp_all
     ·exact f2_2 j (by omega)
  ·refine SW_exit ?_
   refine SW_reg ?_
   refine SO_HA 0 [] [8, 9, 10] [] hk0 v0 (cc 0 (p := (-9223372036854775808 ≤ (1 : Int) ∧ (1 : Int) ≤ 9223372036854775807)) (by first | omega | (simp; omega) | (simp; done) | (intros; simp_all; omega) | (intros; simp_all; done)) <| c0) ?_
   refine SR_round ?_
   refine SW_P [] [8, 9, 10, 11] ?_
   refine SW_seq ?_
   refine SW_true (by kernel_rfl) ?_
   refine SW_skip ?_
   refine SW_seq ?_
   refine SW_block ?_
   refine SW_P [] [3, 4, 8, 9, 10] ?_
   refine SW_seq ?_
   refine SW_P [] [3, 4, 8, 9, 10, 19] ?_
   refine SW_if (p := 16 < (p.requires.length : Int)) (by kernel_rfl) (fun c4 => ?_) (fun c4 => ?_)
   ·refine SW_P [] [2] ?_
    refine SW_ret ?_
    refine RK wR [(.bool false)] ?_
    exact Same.of_eq (by rw [depsB_long 1 (by omega) (show 16 < p.requires.length by omega)]; rfl)
   ·refine SW_skip ?_
    refine SW_P [] [3, 8, 9, 10, 22, 23, 24] ?_
    refine SW_block ?_
    refine SW_L (fun g y => ∃ (k1 : Nat), k1 ≤ p.requires.length ∧ (∀ j, j < k1 → depOk 1 (nth p.requires j) = true) ∧ y = ⟨[(3, (.int .i64 1)), (8, (.sl 1 0 7 7 false)), (9, (.int .i64 7)), (10, (.int .i64 1)), (22, (rowOf 5 depX p.requires)), (23, (.int .i64 ((p.requires.length : Int)))), (24, (.int .i64 ((k1 : Int))))], [(0, (.row [(.str p.name), (.str p.evr), (.str p.arch), (.str p.vendor), (rowOf 5 depX p.provides), (rowOf 5 depX p.requires), (rowOf 5 depX p.pre), (rowOf 5 depX p.conflicts), (rowOf 5 depX p.obsoletes), (rowOf 5 depX p.recommends), (rowOf 5 depX p.supplements), (strs p.files)] 38)), (1, (.row [(.ptr 0 4), (.ptr 0 5), (.ptr 0 6), (.ptr 0 7), (.ptr 0 8), (.ptr 0 9), (.ptr 0 10)] 145))], 2⟩ ∧ g = p.requires.length - k1) [3, 8, 9, 10, 22, 23, 24] 2 _ (by omega) ⟨0, (by omega), (by exact fun j hj => by omega), (by kernel_rfl), rfl⟩ ?_
    rintro g3 y3 ⟨k1, f3_1, f3_2, rfl, rfl⟩
    refine SW_P [] [3, 8, 9, 10, 22, 23, 24, 25] ?_
    refine SW_seq ?_
    refine SW_if (p := (k1 : Int) < (p.requires.length : Int)) (by kernel_rfl) (fun c5 => ?_) (fun c5 => ?_)
    ·refine SW_skip ?_
     refine SW_seq ?_
     refine SW_block ?_
     refine SW_H [] [3, 6, 8, 9, 10, 22, 23, 24] [] hk0 v0 (cc 0 (p := (0 ≤ (k1 : Int) ∧ k1 < p.requires.length)) (by first | omega | (simp; omega) | (simp; done) | (intros; simp_all; omega) | (intros; simp_all; done)) <| c0) ?_
     refine SW_H [] [3, 6, 7, 8, 9, 10, 22, 23, 24] [(0, 6)] hk0 v0 c0 ?_
     obtain ⟨b3, hb3⟩ : ∃ b, b = (!decide ((checkE (nth p.requires k1)) = 0)) := ⟨_, rfl⟩
     refine SW_H (CS := [(9, ((!b3) = true → (!b3) = true)), (10, ((!b3) = true → (!b3) = true)), (12, (((!b3) && false) = true → ((!b3) && false) = true)), (13, (((!b3) && false) = true → ((!b3) && false) = true)), (14, ((!b3) = true → ((!b3) = true) ∧ (false = true → ((!b3) && false) = true))), (15, ((!b3) = true → (!b3) = true)), (17, (((!b3) && false) = true → ((!b3) && false) = true)), (18, (((!b3) && false) = true → ((!b3) && false) = true)), (19, ((!b3) = true → ((!b3) = true) ∧ (false = true → ((!b3) && false) = true))), (20, (b3 = false → (!b3) = true))]) [47, 48, 49, 50, 51, 52, 53, 54, 55, 56, 57, 58] [3, 8, 9, 10, 22, 23, 24, 59] [] (hk 4 en_22 (CheckV (nth p.requires k1) (by have := argsSize_nth (l := p.requires) (i := k1) (by omega); omega)) <| hk0) (vk 8 46 (a := .bool (!decide ((checkE (nth p.requires k1)) = 0))) (b := .bool b3) (Imp.of_eq (by rw [hb3])) <| v0) (by refine cc _ ?_ <| cc _ ?_ <| cc _ ?_ <| cc _ ?_ <| cc _ ?_ <| cc _ ?_ <| cc _ ?_ <| cc _ ?_ <| cc _ ?_ <| cc _ ?_ c0 <;> first | omega | (simp; omega) | (simp; done) | (intros; simp_all; omega) | (intros; simp_all; done)) ?_
     refine SW_cond (q := b3 && true) (by kernel_rfl) (fun c6 => ?_) (fun c6 => ?_)
     ·subst hb3
      try simp only [Bool.and_eq_true, Bool.or_eq_true, Bool.and_eq_false_iff, Bool.or_eq_false_iff, Bool.not_eq_true', Bool.not_eq_false', decide_eq_true_eq, decide_eq_false_iff_not] at c6
      refine SW_P [] [2] ?_
      refine SW_ret ?_
      refine RK wR [(.bool false)] ?_
      exact Same.of_eq (by rw [depsB_bad 1 (j := k1) (by omega) (show k1 < p.requires.length by omega) (show depOk 1 (nth p.requires k1) = false by unfold depOk; by_cases a1 : checkE (nth p.requires k1) = 0 <;> by_cases a2 : (nth p.requires k1).kind = 1 <;> by_cases a3 : (nth p.requires k1).op = 0 <;> by_cases a4 : (nth p.requires k1).op = 2 <;> simp_all)]; rfl)
     ·subst hb3
      try simp only [Bool.and_eq_true, Bool.or_eq_true, Bool.and_eq_false_iff, Bool.or_eq_false_iff, Bool.not_eq_true', Bool.not_eq_false', decide_eq_true_eq, decide_eq_false_iff_not] at c6
      refine SW_skip ?_
      refine SW_reg ?_
      refine SO_HA 0 [] [3, 8, 9, 10, 22, 23, 24] [] hk0 v0 (cc 0 (p := (-9223372036854775808 ≤ (k1 : Int) + 1 ∧ (k1 : Int) + 1 ≤ 9223372036854775807)) (by first | omega | (simp; omega) | (simp; done) | (intros; simp_all; omega) | (intros; simp_all; done)) <| c0) ?_
      refine ⟨by kernel_rfl, _, ?_, k1 + 1, ?_, ?_, (by kernel_rfl), rfl⟩
      ·omega
      ·omega
      ·intro j hj
       by_cases h : j = k1
       ·subst h; unfold depOk; by_cases a1 : checkE (nth p.requires j) = 0 <;> by_cases a2 : (nth p.requires j).kind = 1 <;> by_cases a3 : (nth p.requires j).op = 0 <;> by_cases a4 : (nth p.requires j).op = 2 <;> simp_all
       ·exact f3_2 j (by omega)
    ·refine SW_exit ?_
     refine SW_reg ?_
     refine SO_HA 0 [] [8, 9, 10] [] hk0 v0 (cc 0 (p := (-9223372036854775808 ≤ (2 : Int) ∧ (2 : Int) ≤ 9223372036854775807)) (by first | omega | (simp; omega) | (simp; done) | (intros; simp_all; omega) | (intros; simp_all; done)) <| c0) ?_
     refine SR_round ?_
     refine SW_P [] [8, 9, 10, 11] ?_
     refine SW_seq ?_
     refine SW_true (by kernel_rfl) ?_
     refine SW_skip ?_
     refine SW_seq ?_
     refine SW_block ?_
     refine SW_P [] [3, 4, 8, 9, 10] ?_
     refine SW_seq ?_
     refine SW_P [] [3, 4, 8, 9, 10, 19] ?_
     refine SW_if (p := 16 < (p.pre.length : Int)) (by kernel_rfl) (fun c7 => ?_) (fun c7 => ?_)
     ·refine SW_P [] [2] ?_
      refine SW_ret ?_
      refine RK wR [(.bool false)] ?_
      exact Same.of_eq (by rw [depsB_long 2 (by omega) (show 16 < p.pre.length by omega)]; rfl)
     ·refine SW_skip ?_
      refine SW_P [] [3, 8, 9, 10, 22, 23, 24] ?_
      refine SW_block ?_
      refine SW_L (fun g y => ∃ (k2 : Nat), k2 ≤ p.pre.length ∧ (∀ j, j < k2 → depOk 2 (nth p.pre j) = true) ∧ y = ⟨[(3, (.int .i64 2)), (8, (.sl 1 0 7 7 false)), (9, (.int .i64 7)), (10, (.int .i64 2)), (22, (rowOf 5 depX p.pre)), (23, (.int .i64 ((p.pre.length : Int)))), (24, (.int .i64 ((k2 : Int))))], [(0, (.row [(.str p.name), (.str p.evr), (.str p.arch), (.str p.vendor), (rowOf 5 depX p.provides), (rowOf 5 depX p.requires), (rowOf 5 depX p.pre), (rowOf 5 depX p.conflicts), (rowOf 5 depX p.obsoletes), (rowOf 5 depX p.recommends), (rowOf 5 depX p.supplements), (strs p.files)] 38)), (1, (.row [(.ptr 0 4), (.ptr 0 5), (.ptr 0 6), (.ptr 0 7), (.ptr 0 8), (.ptr 0 9), (.ptr 0 10)] 145))], 2⟩ ∧ g = p.pre.length - k2) [3, 8, 9, 10, 22, 23, 24] 2 _ (by omega) ⟨0, (by omega), (by exact fun j hj => by omega), (by kernel_rfl), rfl⟩ ?_
      rintro g4 y4 ⟨k2, f4_1, f4_2, rfl, rfl⟩
      refine SW_P [] [3, 8, 9, 10, 22, 23, 24, 25] ?_
      refine SW_seq ?_
      refine SW_if (p := (k2 : Int) < (p.pre.length : Int)) (by kernel_rfl) (fun c8 => ?_) (fun c8 => ?_)
      ·refine SW_skip ?_
       refine SW_seq ?_
       refine SW_block ?_
       refine SW_H [] [3, 6, 8, 9, 10, 22, 23, 24] [] hk0 v0 (cc 0 (p := (0 ≤ (k2 : Int) ∧ k2 < p.pre.length)) (by first | omega | (simp; omega) | (simp; done) | (intros; simp_all; omega) | (intros; simp_all; done)) <| c0) ?_
       refine SW_H [] [3, 6, 7, 8, 9, 10, 22, 23, 24] [(0, 6)] hk0 v0 c0 ?_
       obtain ⟨b4, hb4⟩ : ∃ b, b = (!decide ((checkE (nth p.pre k2)) = 0)) := ⟨_, rfl⟩
       refine SW_H (CS := [(9, ((!b4) = true → (!b4) = true)), (10, ((!b4) = true → (!b4) = true)), (12, (((!b4) && false) = true → ((!b4) && false) = true)), (13, (((!b4) && false) = true → ((!b4) && false) = true)), (14, ((!b4) = true → ((!b4) = true) ∧ (false = true → ((!b4) && false) = true))), (15, ((!b4) = true → (!b4) = true)), (17, (((!b4) && false) = true → ((!b4) && false) = true)), (18, (((!b4) && false) = true → ((!b4) && false) = true)), (19, ((!b4) = true → ((!b4) = true) ∧ (false = true → ((!b4) && false) = true))), (20, (b4 = false → (!b4) = true))]) [47, 48, 49, 50, 51, 52, 53, 54, 55, 56, 57, 58] [3, 8, 9, 10, 22, 23, 24, 59] [] (hk 4 en_22 (CheckV (nth p.pre k2) (by have := argsSize_nth (l := p.pre) (i := k2) (by omega); omega)) <| hk0) (vk 8 46 (a := .bool (!decide ((checkE (nth p.pre k2)) = 0))) (b := .bool b4) (Imp.of_eq (by rw [hb4])) <| v0) (by refine cc _ ?_ <| cc _ ?_ <| cc _ ?_ <| cc _ ?_ <| cc _ ?_ <| cc _ ?_ <| cc _ ?_ <| cc _ ?_ <| cc _ ?_ <| cc _ ?_ c0 <;> first | omega | (simp; omega) | (simp; done) | (intros; simp_all; omega) | (intros; simp_all; done)) ?_
       refine SW_cond (q := b4 && true) (by kernel_rfl) (fun c9 => ?_) (fun c9 => ?_)
       ·subst hb4
        try simp only [Bool.and_eq_true, Bool.or_eq_true, Bool.and_eq_false_iff, Bool.or_eq_false_iff, Bool.not_eq_true', Bool.not_eq_false', decide_eq_true_eq, decide_eq_false_iff_not] at c9
        refine SW_P [] [2] ?_
        refine SW_ret ?_
        refine RK wR [(.bool false)] ?_
        exact Same.of_eq (by rw [depsB_bad 2 (j := k2) (by omega) (show k2 < p.pre.length by omega) (show depOk 2 (nth p.pre k2) = false by unfold depOk; by_cases a1 : checkE (nth p.pre k2) = 0 <;> by_cases a2 : (nth p.pre k2).kind = 1 <;> by_cases a3 : (nth p.pre k2).op = 0 <;> by_cases a4 : (nth p.pre k2).op = 2 <;> simp_all)]; rfl)
       ·subst hb4
        try simp only [Bool.and_eq_true, Bool.or_eq_true, Bool.and_eq_false_iff, Bool.or_eq_false_iff, Bool.not_eq_true', Bool.not_eq_false', decide_eq_true_eq, decide_eq_false_iff_not] at c9
        refine SW_skip ?_
        refine SW_reg ?_
        refine SO_HA 0 [] [3, 8, 9, 10, 22, 23, 24] [] hk0 v0 (cc 0 (p := (-9223372036854775808 ≤ (k2 : Int) + 1 ∧ (k2 : Int) + 1 ≤ 9223372036854775807)) (by first | omega | (simp; omega) | (simp; done) | (intros; simp_all; omega) | (intros; simp_all; done)) <| c0) ?_
        refine ⟨by kernel_rfl, _, ?_, k2 + 1, ?_, ?_, (by kernel_rfl), rfl⟩
        ·omega
        ·omega
        ·intro j hj
         by_cases h : j = k2
         ·subst h; unfold depOk; by_cases a1 : checkE (nth p.pre j) = 0 <;> by_cases a2 : (nth p.pre j).kind = 1 <;> by_cases a3 : (nth p.pre j).op = 0 <;> by_cases a4 : (nth p.pre j).op = 2 <;> simp_all
         ·exact f4_2 j (by omega)
      ·refine SW_exit ?_
       refine SW_reg ?_
       refine SO_HA 0 [] [8, 9, 10] [] hk0 v0 (cc 0 (p := (-9223372036854775808 ≤ (3 : Int) ∧ (3 : Int) ≤ 9223372036854775807)) (by first | omega | (simp; omega) | (simp; done) | (intros; simp_all; omega) | (intros; simp_all; done)) <| c0) ?_
       refine SR_round ?_
       refine SW_P [] [8, 9, 10, 11] ?_
       refine SW_seq ?_
       refine SW_true (by kernel_rfl) ?_
       refine SW_skip ?_
       refine SW_seq ?_
       refine SW_block ?_
       refine SW_P [] [3, 4, 8, 9, 10] ?_
       refine SW_seq ?_
       refine SW_P [] [3, 4, 8, 9, 10, 19] ?_
       refine SW_if (p := 16 < (p.conflicts.length : Int)) (by kernel_rfl) (fun c10 => ?_) (fun c10 => ?_)
       ·refine SW_P [] [2] ?_
        refine SW_ret ?_
        refine RK wR [(.bool false)] ?_
        exact Same.of_eq (by rw [depsB_long 3 (by omega) (show 16 < p.conflicts.length by omega)]; rfl)
       ·refine SW_skip ?_
        refine SW_P [] [3, 8, 9, 10, 22, 23, 24] ?_
        refine SW_block ?_
        refine SW_L (fun g y => ∃ (k3 : Nat), k3 ≤ p.conflicts.length ∧ (∀ j, j < k3 → depOk 3 (nth p.conflicts j) = true) ∧ y = ⟨[(3, (.int .i64 3)), (8, (.sl 1 0 7 7 false)), (9, (.int .i64 7)), (10, (.int .i64 3)), (22, (rowOf 5 depX p.conflicts)), (23, (.int .i64 ((p.conflicts.length : Int)))), (24, (.int .i64 ((k3 : Int))))], [(0, (.row [(.str p.name), (.str p.evr), (.str p.arch), (.str p.vendor), (rowOf 5 depX p.provides), (rowOf 5 depX p.requires), (rowOf 5 depX p.pre), (rowOf 5 depX p.conflicts), (rowOf 5 depX p.obsoletes), (rowOf 5 depX p.recommends), (rowOf 5 depX p.supplements), (strs p.files)] 38)), (1, (.row [(.ptr 0 4), (.ptr 0 5), (.ptr 0 6), (.ptr 0 7), (.ptr 0 8), (.ptr 0 9), (.ptr 0 10)] 145))], 2⟩ ∧ g = p.conflicts.length - k3) [3, 8, 9, 10, 22, 23, 24] 2 _ (by omega) ⟨0, (by omega), (by exact fun j hj => by omega), (by kernel_rfl), rfl⟩ ?_
        rintro g5 y5 ⟨k3, f5_1, f5_2, rfl, rfl⟩
        refine SW_P [] [3, 8, 9, 10, 22, 23, 24, 25] ?_
        refine SW_seq ?_
        refine SW_if (p := (k3 : Int) < (p.conflicts.length : Int)) (by kernel_rfl) (fun c11 => ?_) (fun c11 => ?_)
        ·refine SW_skip ?_
         refine SW_seq ?_
         refine SW_block ?_
         refine SW_H [] [3, 6, 8, 9, 10, 22, 23, 24] [] hk0 v0 (cc 0 (p := (0 ≤ (k3 : Int) ∧ k3 < p.conflicts.length)) (by first | omega | (simp; omega) | (simp; done) | (intros; simp_all; omega) | (intros; simp_all; done)) <| c0) ?_
         refine SW_H [] [3, 6, 7, 8, 9, 10, 22, 23, 24] [(0, 6)] hk0 v0 c0 ?_
         obtain ⟨b5, hb5⟩ : ∃ b, b = (!decide ((checkE (nth p.conflicts k3)) = 0)) := ⟨_, rfl⟩
         refine SW_H (CS := [(9, ((!b5) = true → (!b5) = true)), (10, ((!b5) = true → (!b5) = true)), (12, (((!b5) && false) = true → ((!b5) && false) = true)), (13, (((!b5) && false) = true → ((!b5) && false) = true)), (14, ((!b5) = true → ((!b5) = true) ∧ (false = true → ((!b5) && false) = true))), (15, ((!b5) = true → (!b5) = true)), (17, (((!b5) && false) = true → ((!b5) && false) = true)), (18, (((!b5) && false) = true → ((!b5) && false) = true)), (19, ((!b5) = true → ((!b5) = true) ∧ (false = true → ((!b5) && false) = true))), (20, (b5 = false → (!b5) = true))]) [47, 48, 49, 50, 51, 52, 53, 54, 55, 56, 57, 58] [3, 8, 9, 10, 22, 23, 24, 59] [] (hk 4 en_22 (CheckV (nth p.conflicts k3) (by have := argsSize_nth (l := p.conflicts) (i := k3) (by omega); omega)) <| hk0) (vk 8 46 (a := .bool (!decide ((checkE (nth p.conflicts k3)) = 0))) (b := .bool b5) (Imp.of_eq (by rw [hb5])) <| v0) (by refine cc _ ?_ <| cc _ ?_ <| cc _ ?_ <| cc _ ?_ <| cc _ ?_ <| cc _ ?_ <| cc _ ?_ <| cc _ ?_ <| cc _ ?_ <| cc _ ?_ c0 <;> first | omega | (simp; omega) | (simp; done) | (intros; simp_all; omega) | (intros; simp_all; done)) ?_
         refine SW_cond (q := b5 && true) (by kernel_rfl) (fun c12 => ?_) (fun c12 => ?_)
         ·subst hb5
          try simp only [Bool.and_eq_true, Bool.or_eq_true, Bool.and_eq_false_iff, Bool.or_eq_false_iff, Bool.not_eq_true', Bool.not_eq_false', decide_eq_true_eq, decide_eq_false_iff_not] at c12
          refine SW_P [] [2] ?_
          refine SW_ret ?_
          refine RK wR [(.bool false)] ?_
          exact Same.of_eq (by rw [depsB_bad 3 (j := k3) (by omega) (show k3 < p.conflicts.length by omega) (show depOk 3 (nth p.conflicts k3) = false by unfold depOk; by_cases a1 : checkE (nth p.conflicts k3) = 0 <;> by_cases a2 : (nth p.conflicts k3).kind = 1 <;> by_cases a3 : (nth p.conflicts k3).op = 0 <;> by_cases a4 : (nth p.conflicts k3).op = 2 <;> simp_all)]; rfl)
         ·subst hb5
          try simp only [Bool.and_eq_true, Bool.or_eq_true, Bool.and_eq_false_iff, Bool.or_eq_false_iff, Bool.not_eq_true', Bool.not_eq_false', decide_eq_true_eq, decide_eq_false_iff_not] at c12
          refine SW_skip ?_
          refine SW_reg ?_
          refine SO_HA 0 [] [3, 8, 9, 10, 22, 23, 24] [] hk0 v0 (cc 0 (p := (-9223372036854775808 ≤ (k3 : Int) + 1 ∧ (k3 : Int) + 1 ≤ 9223372036854775807)) (by first | omega | (simp; omega) | (simp; done) | (intros; simp_all; omega) | (intros; simp_all; done)) <| c0) ?_
          refine ⟨by kernel_rfl, _, ?_, k3 + 1, ?_, ?_, (by kernel_rfl), rfl⟩
          ·omega
          ·omega
          ·intro j hj
           by_cases h : j = k3
           ·subst h; unfold depOk; by_cases a1 : checkE (nth p.conflicts j) = 0 <;> by_cases a2 : (nth p.conflicts j).kind = 1 <;> by_cases a3 : (nth p.conflicts j).op = 0 <;> by_cases a4 : (nth p.conflicts j).op = 2 <;> simp_all
           ·exact f5_2 j (by omega)
        ·refine SW_exit ?_
         refine SW_reg ?_
         refine SO_HA 0 [] [8, 9, 10] [] hk0 v0 (cc 0 (p := (-9223372036854775808 ≤ (4 : Int) ∧ (4 : Int) ≤ 9223372036854775807)) (by first | omega | (simp; omega) | (simp; done) | (intros; simp_all; omega) | (intros; simp_all; done)) <| c0) ?_
         refine SR_round ?_
         refine SW_P [] [8, 9, 10, 11] ?_
         refine SW_seq ?_
         refine SW_true (by kernel_rfl) ?_
         refine SW_skip ?_
         refine SW_seq ?_
         refine SW_block ?_
         refine SW_P [] [3, 4, 8, 9, 10] ?_
         refine SW_seq ?_
         refine SW_P [] [3, 4, 8, 9, 10, 19] ?_
         refine SW_if (p := 16 < (p.obsoletes.length : Int)) (by kernel_rfl) (fun c13 => ?_) (fun c13 => ?_)
         ·refine SW_P [] [2] ?_
          refine SW_ret ?_
          refine RK wR [(.bool false)] ?_
          exact Same.of_eq (by rw [depsB_long 4 (by omega) (show 16 < p.obsoletes.length by omega)]; rfl)
         ·refine SW_skip ?_
          refine SW_P [] [3, 8, 9, 10, 22, 23, 24] ?_
          refine SW_block ?_
          refine SW_L (fun g y => ∃ (k4 : Nat), k4 ≤ p.obsoletes.length ∧ (∀ j, j < k4 → depOk 4 (nth p.obsoletes j) = true) ∧ y = ⟨[(3, (.int .i64 4)), (8, (.sl 1 0 7 7 false)), (9, (.int .i64 7)), (10, (.int .i64 4)), (22, (rowOf 5 depX p.obsoletes)), (23, (.int .i64 ((p.obsoletes.length : Int)))), (24, (.int .i64 ((k4 : Int))))], [(0, (.row [(.str p.name), (.str p.evr), (.str p.arch), (.str p.vendor), (rowOf 5 depX p.provides), (rowOf 5 depX p.requires), (rowOf 5 depX p.pre), (rowOf 5 depX p.conflicts), (rowOf 5 depX p.obsoletes), (rowOf 5 depX p.recommends), (rowOf 5 depX p.supplements), (strs p.files)] 38)), (1, (.row [(.ptr 0 4), (.ptr 0 5), (.ptr 0 6), (.ptr 0 7), (.ptr 0 8), (.ptr 0 9), (.ptr 0 10)] 145))], 2⟩ ∧ g = p.obsoletes.length - k4) [3, 8, 9, 10, 22, 23, 24] 2 _ (by omega) ⟨0, (by omega), (by exact fun j hj => by omega), (by kernel_rfl), rfl⟩ ?_
          rintro g6 y6 ⟨k4, f6_1, f6_2, rfl, rfl⟩
          refine SW_P [] [3, 8, 9, 10, 22, 23, 24, 25] ?_
          refine SW_seq ?_
          refine SW_if (p := (k4 : Int) < (p.obsoletes.length : Int)) (by kernel_rfl) (fun c14 => ?_) (fun c14 => ?_)
          ·refine SW_skip ?_
           refine SW_seq ?_
           refine SW_block ?_
           refine SW_H [] [3, 6, 8, 9, 10, 22, 23, 24] [] hk0 v0 (cc 0 (p := (0 ≤ (k4 : Int) ∧ k4 < p.obsoletes.length)) (by first | omega | (simp; omega) | (simp; done) | (intros; simp_all; omega) | (intros; simp_all; done)) <| c0) ?_
           refine SW_H [] [3, 6, 7, 8, 9, 10, 22, 23, 24] [(0, 6)] hk0 v0 c0 ?_
           obtain ⟨b6, hb6⟩ : ∃ b, b = (!(decide (((nth p.obsoletes k4).kind) = 1))) := ⟨_, rfl⟩
           obtain ⟨b7, hb7⟩ : ∃ b, b = (b6 || (!decide ((checkE (nth p.obsoletes k4)) = 0))) := ⟨_, rfl⟩
           refine SW_H (CS := [(4, (!b6) = true → (!b6) = true), (5, ((!b6) = true → (!b6) = true)), (6, (b6 = false → (!b6) = true)), (9, ((!b7) = true → (!b7) = true)), (10, ((!b7) = true → (!b7) = true)), (12, (((!b7) && false) = true → ((!b7) && false) = true)), (13, (((!b7) && false) = true → ((!b7) && false) = true)), (14, ((!b7) = true → ((!b7) = true) ∧ (false = true → ((!b7) && false) = true))), (15, ((!b7) = true → (!b7) = true)), (17, (((!b7) && false) = true → ((!b7) && false) = true)), (18, (((!b7) && false) = true → ((!b7) && false) = true)), (19, ((!b7) = true → ((!b7) = true) ∧ (false = true → ((!b7) && false) = true))), (20, (b7 = false → (!b7) = true))]) [42, 44, 47, 48, 49, 50, 51, 52, 53, 54, 55, 56, 57, 58] [3, 8, 9, 10, 22, 23, 24, 59] [] (hkg 4 (!b6) en_22 (fun cg => CheckV (nth p.obsoletes k4) (by have := argsSize_nth (l := p.obsoletes) (i := k4) (by omega); omega)) <| hk0) (vk 3 41 (a := .bool (!(decide (((nth p.obsoletes k4).kind) = 1)))) (b := .bool b6) (Imp.of_eq (by rw [hb6])) <| vk 7 45 (a := .bool (b6 || (!decide ((checkE (nth p.obsoletes k4)) = 0)))) (b := .bool b7) (Imp.of_eq (by rw [hb7])) <| v0) (by refine cc _ ?_ <| cc _ ?_ <| cc _ ?_ <| cc _ ?_ <| cc _ ?_ <| cc _ ?_ <| cc _ ?_ <| cc _ ?_ <| cc _ ?_ <| cc _ ?_ <| cc _ ?_ <| cc _ ?_ <| cc _ ?_ c0 <;> first | omega | (simp; omega) | (simp; done) | (intros; simp_all; omega) | (intros; simp_all; done)) ?_
           refine SW_cond (q := b7 && true) (by kernel_rfl) (fun c15 => ?_) (fun c15 => ?_)
           ·subst hb7 hb6
            try simp only [Bool.and_eq_true, Bool.or_eq_true, Bool.and_eq_false_iff, Bool.or_eq_false_iff, Bool.not_eq_true', Bool.not_eq_false', decide_eq_true_eq, decide_eq_false_iff_not] at c15
            refine SW_P [] [2] ?_
            refine SW_ret ?_
            refine RK wR [(.bool false)] ?_
            exact Same.of_eq (by rw [depsB_bad 4 (j := k4) (by omega) (show k4 < p.obsoletes.length by omega) (show depOk 4 (nth p.obsoletes k4) = false by unfold depOk; by_cases a1 : checkE (nth p.obsoletes k4) = 0 <;> by_cases a2 : (nth p.obsoletes k4).kind = 1 <;> by_cases a3 : (nth p.obsoletes k4).op = 0 <;> by_cases a4 : (nth p.obsoletes k4).op = 2 <;> simp_all)]; rfl)
           ·subst hb7 hb6
            try simp only [Bool.and_eq_true, Bool.or_eq_true, Bool.and_eq_false_iff, Bool.or_eq_false_iff, Bool.not_eq_true', Bool.not_eq_false', decide_eq_true_eq, decide_eq_false_iff_not] at c15
            refine SW_skip ?_
            refine SW_reg ?_
            refine SO_HA 0 [] [3, 8, 9, 10, 22, 23, 24] [] hk0 v0 (cc 0 (p := (-9223372036854775808 ≤ (k4 : Int) + 1 ∧ (k4 : Int) + 1 ≤ 9223372036854775807)) (by first | omega | (simp; omega) | (simp; done) | (intros; simp_all; omega) | (intros; simp_all; done)) <| c0) ?_
            refine ⟨by kernel_rfl, _, ?_, k4 + 1, ?_, ?_, (by kernel_rfl), rfl⟩
            ·omega
            ·omega
            ·intro j hj
             by_cases h : j = k4
             ·subst h; unfold depOk; by_cases a1 : checkE (nth p.obsoletes j) = 0 <;> by_cases a2 : (nth p.obsoletes j).kind = 1 <;> by_cases a3 : (nth p.obsoletes j).op = 0 <;> by_cases a4 : (nth p.obsoletes j).op = 2 <;> simp_all
             ·exact f6_2 j (by omega)
          ·refine SW_exit ?_
           refine SW_reg ?_
           refine SO_HA 0 [] [8, 9, 10] [] hk0 v0 (cc 0 (p := (-9223372036854775808 ≤ (5 : Int) ∧ (5 : Int) ≤ 9223372036854775807)) (by first | omega | (simp; omega) | (simp; done) | (intros; simp_all; omega) | (intros; simp_all; done)) <| c0) ?_
           refine SR_round ?_
           refine SW_P [] [8, 9, 10, 11] ?_
           refine SW_seq ?_
           refine SW_true (by kernel_rfl) ?_
           refine SW_skip ?_
           refine SW_seq ?_
           refine SW_block ?_
           refine SW_P [] [3, 4, 8, 9, 10] ?_
           refine SW_seq ?_
           refine SW_P [] [3, 4, 8, 9, 10, 19] ?_
           refine SW_if (p := 16 < (p.recommends.length : Int)) (by kernel_rfl) (fun c16 => ?_) (fun c16 => ?_)
           ·refine SW_P [] [2] ?_
            refine SW_ret ?_
            refine RK wR [(.bool false)] ?_
            exact Same.of_eq (by rw [depsB_long 5 (by omega) (show 16 < p.recommends.length by omega)]; rfl)
           ·refine SW_skip ?_
            refine SW_P [] [3, 8, 9, 10, 22, 23, 24] ?_
            refine SW_block ?_
            refine SW_L (fun g y => ∃ (k5 : Nat), k5 ≤ p.recommends.length ∧ (∀ j, j < k5 → depOk 5 (nth p.recommends j) = true) ∧ y = ⟨[(3, (.int .i64 5)), (8, (.sl 1 0 7 7 false)), (9, (.int .i64 7)), (10, (.int .i64 5)), (22, (rowOf 5 depX p.recommends)), (23, (.int .i64 ((p.recommends.length : Int)))), (24, (.int .i64 ((k5 : Int))))], [(0, (.row [(.str p.name), (.str p.evr), (.str p.arch), (.str p.vendor), (rowOf 5 depX p.provides), (rowOf 5 depX p.requires), (rowOf 5 depX p.pre), (rowOf 5 depX p.conflicts), (rowOf 5 depX p.obsoletes), (rowOf 5 depX p.recommends), (rowOf 5 depX p.supplements), (strs p.files)] 38)), (1, (.row [(.ptr 0 4), (.ptr 0 5), (.ptr 0 6), (.ptr 0 7), (.ptr 0 8), (.ptr 0 9), (.ptr 0 10)] 145))], 2⟩ ∧ g = p.recommends.length - k5) [3, 8, 9, 10, 22, 23, 24] 2 _ (by omega) ⟨0, (by omega), (by exact fun j hj => by omega), (by kernel_rfl), rfl⟩ ?_
            rintro g7 y7 ⟨k5, f7_1, f7_2, rfl, rfl⟩
            refine SW_P [] [3, 8, 9, 10, 22, 23, 24, 25] ?_
            refine SW_seq ?_
            refine SW_if (p := (k5 : Int) < (p.recommends.length : Int)) (by kernel_rfl) (fun c17 => ?_) (fun c17 => ?_)
            ·refine SW_skip ?_
             refine SW_seq ?_
             refine SW_block ?_
             refine SW_H [] [3, 6, 8, 9, 10, 22, 23, 24] [] hk0 v0 (cc 0 (p := (0 ≤ (k5 : Int) ∧ k5 < p.recommends.length)) (by first | omega | (simp; omega) | (simp; done) | (intros; simp_all; omega) | (intros; simp_all; done)) <| c0) ?_
             refine SW_H [] [3, 6, 7, 8, 9, 10, 22, 23, 24] [(0, 6)] hk0 v0 c0 ?_
             obtain ⟨b8, hb8⟩ : ∃ b, b = (!decide ((checkE (nth p.recommends k5)) = 0)) := ⟨_, rfl⟩
             refine SW_H (CS := [(9, ((!b8) = true → (!b8) = true)), (10, ((!b8) = true → (!b8) = true)), (12, (((!b8) && false) = true → ((!b8) && false) = true)), (13, (((!b8) && false) = true → ((!b8) && false) = true)), (14, ((!b8) = true → ((!b8) = true) ∧ (false = true → ((!b8) && false) = true))), (15, ((!b8) = true → (!b8) = true)), (17, (((!b8) && false) = true → ((!b8) && false) = true)), (18, (((!b8) && false) = true → ((!b8) && false) = true)), (19, ((!b8) = true → ((!b8) = true) ∧ (false = true → ((!b8) && false) = true))), (20, (b8 = false → (!b8) = true))]) [47, 48, 49, 50, 51, 52, 53, 54, 55, 56, 57, 58] [3, 8, 9, 10, 22, 23, 24, 59] [] (hk 4 en_22 (CheckV (nth p.recommends k5) (by have := argsSize_nth (l := p.recommends) (i := k5) (by omega); omega)) <| hk0) (vk 8 46 (a := .bool (!decide ((checkE (nth p.recommends k5)) = 0))) (b := .bool b8) (Imp.of_eq (by rw [hb8])) <| v0) (by refine cc _ ?_ <| cc _ ?_ <| cc _ ?_ <| cc _ ?_ <| cc _ ?_ <| cc _ ?_ <| cc _ ?_ <| cc _ ?_ <| cc _ ?_ <| cc _ ?_ c0 <;> first | omega | (simp; omega) | (simp; done) | (intros; simp_all; omega) | (intros; simp_all; done)) ?_
             refine SW_cond (q := b8 && true) (by kernel_rfl) (fun c18 => ?_) (fun c18 => ?_)
             ·subst hb8
              try simp only [Bool.and_eq_true, Bool.or_eq_true, Bool.and_eq_false_iff, Bool.or_eq_false_iff, Bool.not_eq_true', Bool.not_eq_false', decide_eq_true_eq, decide_eq_false_iff_not] at c18
              refine SW_P [] [2] ?_
              refine SW_ret ?_
              refine RK wR [(.bool false)] ?_
              exact Same.of_eq (by rw [depsB_bad 5 (j := k5) (by omega) (show k5 < p.recommends.length by omega) (show depOk 5 (nth p.recommends k5) = false by unfold depOk; by_cases a1 : checkE (nth p.recommends k5) = 0 <;> by_cases a2 : (nth p.recommends k5).kind = 1 <;> by_cases a3 : (nth p.recommends k5).op = 0 <;> by_cases a4 : (nth p.recommends k5).op = 2 <;> simp_all)]; rfl)
             ·subst hb8
              try simp only [Bool.and_eq_true, Bool.or_eq_true, Bool.and_eq_false_iff, Bool.or_eq_false_iff, Bool.not_eq_true', Bool.not_eq_false', decide_eq_true_eq, decide_eq_false_iff_not] at c18
              refine SW_skip ?_
              refine SW_reg ?_
              refine SO_HA 0 [] [3, 8, 9, 10, 22, 23, 24] [] hk0 v0 (cc 0 (p := (-9223372036854775808 ≤ (k5 : Int) + 1 ∧ (k5 : Int) + 1 ≤ 9223372036854775807)) (by first | omega | (simp; omega) | (simp; done) | (intros; simp_all; omega) | (intros; simp_all; done)) <| c0) ?_
              refine ⟨by kernel_rfl, _, ?_, k5 + 1, ?_, ?_, (by kernel_rfl), rfl⟩
              ·omega
              ·omega
              ·intro j hj
               by_cases h : j = k5
               ·subst h; unfold depOk; by_cases a1 : checkE (nth p.recommends j) = 0 <;> by_cases a2 : (nth p.recommends j).kind = 1 <;> by_cases a3 : (nth p.recommends j).op = 0 <;> by_cases a4 : (nth p.recommends j).op = 2 <;> simp_all
               ·exact f7_2 j (by omega)
            ·refine SW_exit ?_
             refine SW_reg ?_
             refine SO_HA 0 [] [8, 9, 10] [] hk0 v0 (cc 0 (p := (-9223372036854775808 ≤ (6 : Int) ∧ (6 : Int) ≤ 9223372036854775807)) (by first | omega | (simp; omega) | (simp; done) | (intros; simp_all; omega) | (intros; simp_all; done)) <| c0) ?_
             refine SR_round ?_
             refine SW_P [] [8, 9, 10, 11] ?_
             refine SW_seq ?_
             refine SW_true (by kernel_rfl) ?_
             refine SW_skip ?_
             refine SW_seq ?_
             refine SW_block ?_
             refine SW_P [] [3, 4, 8, 9, 10] ?_
             refine SW_seq ?_
             refine SW_P [] [3, 4, 8, 9, 10, 19] ?_
             refine SW_if (p := 16 < (p.supplements.length : Int)) (by kernel_rfl) (fun c19 => ?_) (fun c19 => ?_)
             ·refine SW_P [] [2] ?_
              refine SW_ret ?_
              refine RK wR [(.bool false)] ?_
              exact Same.of_eq (by rw [depsB_long 6 (by omega) (show 16 < p.supplements.length by omega)]; rfl)
             ·refine SW_skip ?_
              refine SW_P [] [3, 8, 9, 10, 22, 23, 24] ?_
              refine SW_block ?_
              refine SW_L (fun g y => ∃ (k6 : Nat), k6 ≤ p.supplements.length ∧ (∀ j, j < k6 → depOk 6 (nth p.supplements j) = true) ∧ y = ⟨[(3, (.int .i64 6)), (8, (.sl 1 0 7 7 false)), (9, (.int .i64 7)), (10, (.int .i64 6)), (22, (rowOf 5 depX p.supplements)), (23, (.int .i64 ((p.supplements.length : Int)))), (24, (.int .i64 ((k6 : Int))))], [(0, (.row [(.str p.name), (.str p.evr), (.str p.arch), (.str p.vendor), (rowOf 5 depX p.provides), (rowOf 5 depX p.requires), (rowOf 5 depX p.pre), (rowOf 5 depX p.conflicts), (rowOf 5 depX p.obsoletes), (rowOf 5 depX p.recommends), (rowOf 5 depX p.supplements), (strs p.files)] 38)), (1, (.row [(.ptr 0 4), (.ptr 0 5), (.ptr 0 6), (.ptr 0 7), (.ptr 0 8), (.ptr 0 9), (.ptr 0 10)] 145))], 2⟩ ∧ g = p.supplements.length - k6) [3, 8, 9, 10, 22, 23, 24] 2 _ (by omega) ⟨0, (by omega), (by exact fun j hj => by omega), (by kernel_rfl), rfl⟩ ?_
              rintro g8 y8 ⟨k6, f8_1, f8_2, rfl, rfl⟩
              refine SW_P [] [3, 8, 9, 10, 22, 23, 24, 25] ?_
              refine SW_seq ?_
              refine SW_if (p := (k6 : Int) < (p.supplements.length : Int)) (by kernel_rfl) (fun c20 => ?_) (fun c20 => ?_)
              ·refine SW_skip ?_
               refine SW_seq ?_
               refine SW_block ?_
               refine SW_H [] [3, 6, 8, 9, 10, 22, 23, 24] [] hk0 v0 (cc 0 (p := (0 ≤ (k6 : Int) ∧ k6 < p.supplements.length)) (by first | omega | (simp; omega) | (simp; done) | (intros; simp_all; omega) | (intros; simp_all; done)) <| c0) ?_
               refine SW_H [] [3, 6, 7, 8, 9, 10, 22, 23, 24] [(0, 6)] hk0 v0 c0 ?_
               obtain ⟨b9, hb9⟩ : ∃ b, b = (!decide ((checkE (nth p.supplements k6)) = 0)) := ⟨_, rfl⟩
               refine SW_H (CS := [(9, ((!b9) = true → (!b9) = true)), (10, ((!b9) = true → (!b9) = true)), (12, (((!b9) && false) = true → ((!b9) && false) = true)), (13, (((!b9) && false) = true → ((!b9) && false) = true)), (14, ((!b9) = true → ((!b9) = true) ∧ (false = true → ((!b9) && false) = true))), (15, ((!b9) = true → (!b9) = true)), (17, (((!b9) && false) = true → ((!b9) && false) = true)), (18, (((!b9) && false) = true → ((!b9) && false) = true)), (19, ((!b9) = true → ((!b9) = true) ∧ (false = true → ((!b9) && false) = true))), (20, (b9 = false → (!b9) = true))]) [47, 48, 49, 50, 51, 52, 53, 54, 55, 56, 57, 58] [3, 8, 9, 10, 22, 23, 24, 59] [] (hk 4 en_22 (CheckV (nth p.supplements k6) (by have := argsSize_nth (l := p.supplements) (i := k6) (by omega); omega)) <| hk0) (vk 7 45 (a := .bool (!decide ((checkE (nth p.supplements k6)) = 0))) (b := .bool b9) (Imp.of_eq (by rw [hb9])) <| v0) (by refine cc _ ?_ <| cc _ ?_ <| cc _ ?_ <| cc _ ?_ <| cc _ ?_ <| cc _ ?_ <| cc _ ?_ <| cc _ ?_ <| cc _ ?_ <| cc _ ?_ c0 <;> first | omega | (simp; omega) | (simp; done) | (intros; simp_all; omega) | (intros; simp_all; done)) ?_
               refine SW_cond (q := b9 && true) (by kernel_rfl) (fun c21 => ?_) (fun c21 => ?_)
               ·subst hb9
                try simp only [Bool.and_eq_true, Bool.or_eq_true, Bool.and_eq_false_iff, Bool.or_eq_false_iff, Bool.not_eq_true', Bool.not_eq_false', decide_eq_true_eq, decide_eq_false_iff_not] at c21
                refine SW_P [] [2] ?_
                refine SW_ret ?_
                refine RK wR [(.bool false)] ?_
                exact Same.of_eq (by rw [depsB_bad 6 (j := k6) (by omega) (show k6 < p.supplements.length by omega) (show depOk 6 (nth p.supplements k6) = false by unfold depOk; by_cases a1 : checkE (nth p.supplements k6) = 0 <;> by_cases a2 : (nth p.supplements k6).kind = 1 <;> by_cases a3 : (nth p.supplements k6).op = 0 <;> by_cases a4 : (nth p.supplements k6).op = 2 <;> simp_all)]; rfl)
               ·subst hb9
                try simp only [Bool.and_eq_true, Bool.or_eq_true, Bool.and_eq_false_iff, Bool.or_eq_false_iff, Bool.not_eq_true', Bool.not_eq_false', decide_eq_true_eq, decide_eq_false_iff_not] at c21
                refine SW_skip ?_
                refine SW_reg ?_
                refine SO_HA 0 [] [3, 8, 9, 10, 22, 23, 24] [] hk0 v0 (cc 0 (p := (-9223372036854775808 ≤ (k6 : Int) + 1 ∧ (k6 : Int) + 1 ≤ 9223372036854775807)) (by first | omega | (simp; omega) | (simp; done) | (intros; simp_all; omega) | (intros; simp_all; done)) <| c0) ?_
                refine ⟨by kernel_rfl, _, ?_, k6 + 1, ?_, ?_, (by kernel_rfl), rfl⟩
                ·omega
                ·omega
                ·intro j hj
                 by_cases h : j = k6
                 ·subst h; unfold depOk; by_cases a1 : checkE (nth p.supplements j) = 0 <;> by_cases a2 : (nth p.supplements j).kind = 1 <;> by_cases a3 : (nth p.supplements j).op = 0 <;> by_cases a4 : (nth p.supplements j).op = 2 <;> simp_all
                 ·exact f8_2 j (by omega)
              ·refine SW_exit ?_
               refine SW_reg ?_
               refine SO_HA 0 [] [8, 9, 10] [] hk0 v0 (cc 0 (p := (-9223372036854775808 ≤ (7 : Int) ∧ (7 : Int) ≤ 9223372036854775807)) (by first | omega | (simp; omega) | (simp; done) | (intros; simp_all; omega) | (intros; simp_all; done)) <| c0) ?_
               refine SR_round ?_
               refine SW_P [] [8, 9, 10, 11] ?_
               refine SW_seq ?_
               refine SW_false (by kernel_rfl) ?_
               refine SW_exit ?_
               refine SW_P [] [2] ?_
               refine SW_ret ?_
               refine RK wR [(.bool true)] ?_
               exact Same.of_eq (by rw [depsB_yes (listOk_mk (k := k0) (by omega) (by omega) f2_2) (listOk_mk (k := k1) (by omega) (by omega) f3_2) (listOk_mk (k := k2) (by omega) (by omega) f4_2) (listOk_mk (k := k3) (by omega) (by omega) f5_2) (listOk_mk (k := k4) (by omega) (by omega) f6_2) (listOk_mk (k := k5) (by omega) (by omega) f7_2) (listOk_mk (k := k6) (by omega) (by omega) f8_2)]; rfl)
set_option maxHeartbeats 1000000 in
set_option maxRecDepth 100000 in
theorem refDeps_ok (p : PkgT) (hs : p.depSize ≤ 4194304) :
  FnV Tryz.prog 144 [(pkgX p)] (.bool (depsB p)) := by
 unfold PkgT.depSize at hs
 refine FnV_intro [.tmp 2] Tryz.func144 rfl Tryz.ntmps144 rfl rfl (fun B F hF => ?_)
 refine SW_H [] [1] [(1, 1)] hk0 v0 c0 ?_
 refine SW_seq ?_
 refine SW_reg ?_
 refine SO_H 1 0 [] [7] [] hk0 v0 c0 ?_
 refine SO_inl [.tmp 2] (al := [(pkgX p)]) (s0 := [(7, (pkgX p))]) (by kernel_rfl) (by exact en_177) (by kernel_rfl) Tryz.func177 rfl Tryz.ntmps177 rfl (by kernel_rfl) (by kernel_rfl) (fun F1 hF1 hle1 => ?_)
 refine SW_H [] [1] [(1, 1)] hk0 v0 c0 ?_
 refine SW_P [] [2] ?_
 refine SW_ret ?_
 refine inlK_mk (.inl rfl) (al := [(.sl 2 0 7 7 false)]) (s' := [(7, (pkgX p)), (8, (.sl 2 0 7 7 false))]) (by kernel_rfl) (by kernel_rfl) ?_
 refine SO_HA 2 [] [3] [] hk0 v0 c0 ?_
 refine SW_seq ?_
 refine SW_P [] [3, 4] ?_
 refine SW_block ?_
 refine SW_rounds 8 ?_
 refine SR_round ?_
 refine SW_seq ?_
 refine SW_P [] [3, 4, 12] ?_
 refine SW_true (by kernel_rfl) ?_
 refine SW_skip ?_
 refine SW_seq ?_
 refine SW_block ?_
 refine SW_seq ?_
 refine SW_P [] [3, 4, 20] ?_
 refine SW_if (p := 16 < (p.provides.length : Int)) (by kernel_rfl) (fun c1 => ?_) (fun c1 => ?_)
 ·refine SW_P [] [2] ?_
  refine SW_ret ?_
  refine RK wR [(.bool false)] ?_
  exact Same.of_eq (by rw [depsB_long 0 (by omega) (show 16 < p.provides.length by omega)]; rfl)
 ·refine SW_skip ?_
  refine SW_P [] [3, 4, 5] ?_
  refine SW_block ?_
  refine SW_L (fun g y => ∃ (k0 : Nat), k0 ≤ p.provides.length ∧ (∀ j, j < k0 → depOk 0 (nth p.provides j) = true) ∧ y = ⟨[(3, (.sl 2 0 7 7 false)), (4, (.int .i64 0)), (5, (.int .i64 ((k0 : Int))))], [(2, (.row [(rowOf 5 depX p.provides), (rowOf 5 depX p.requires), (rowOf 5 depX p.pre), (rowOf 5 depX p.conflicts), (rowOf 5 depX p.obsoletes), (rowOf 5 depX p.recommends), (rowOf 5 depX p.supplements)] 23))], 3⟩ ∧ g = p.provides.length - k0) [3, 4, 5] 3 _ (by omega) ⟨0, (by omega), (by exact fun j hj => by omega), (by kernel_rfl), rfl⟩ ?_
  rintro g2 y2 ⟨k0, f2_1, f2_2, rfl, rfl⟩
  refine SW_seq ?_
  refine SW_P [] [3, 4, 5, 27] ?_
  refine SW_if (p := (k0 : Int) < (p.provides.length : Int)) (by kernel_rfl) (fun c2 => ?_) (fun c2 => ?_)
  ·refine SW_skip ?_
   refine SW_seq ?_
   refine SW_block ?_
   refine SW_H [] [3, 4, 5, 6] [] hk0 v0 (cc 5 (p := (0 ≤ (k0 : Int) ∧ k0 < p.provides.length)) (by first | omega | (simp; omega) | (simp; done) | (intros; simp_all; omega) | (intros; simp_all; done)) <| c0) ?_
   refine SW_seq ?_
   refine SW_H [] [3, 4, 5, 6, 39] [(0, 6)] (hk 1 en_52 (refCheckV (nth p.provides k0) (by have := argsSize_nth (l := p.provides) (i := k0) (by omega); omega)) <| hk0) v0 c0 ?_
   refine SW_ifn (p := (checkE (nth p.provides k0)) = 0) (by kernel_rfl) (fun c3 => ?_) (fun c3 => ?_)
   ·refine SW_P [] [2] ?_
    refine SW_ret ?_
    refine RK wR [(.bool false)] ?_
    exact Same.of_eq (by rw [depsB_bad 0 (j := k0) (by omega) (show k0 < p.provides.length by omega) (show depOk 0 (nth p.provides k0) = false by unfold depOk; by_cases a1 : checkE (nth p.provides k0) = 0 <;> by_cases a2 : (nth p.provides k0).kind = 1 <;> by_cases a3 : (nth p.provides k0).op = 0 <;> by_cases a4 : (nth p.provides k0).op = 2 <;> simp_all)]; rfl)
   ·refine SW_skip ?_
    refine SW_seq ?_
    refine SW_P [] [3, 4, 5, 6, 50] ?_
    refine SW_ifn (p := ((nth p.provides k0).kind) = 1) (by kernel_rfl) (fun c4 => ?_) (fun c4 => ?_)
    ·refine SW_P [] [2] ?_
     refine SW_ret ?_
     refine RK wR [(.bool false)] ?_
     exact Same.of_eq (by rw [depsB_bad 0 (j := k0) (by omega) (show k0 < p.provides.length by omega) (show depOk 0 (nth p.provides k0) = false by unfold depOk; by_cases a1 : checkE (nth p.provides k0) = 0 <;> by_cases a2 : (nth p.provides k0).kind = 1 <;> by_cases a3 : (nth p.provides k0).op = 0 <;> by_cases a4 : (nth p.provides k0).op = 2 <;> simp_all)]; rfl)
    ·refine SW_skip ?_
     obtain ⟨b1, hb1⟩ : ∃ b, b = (!decide (((nth p.provides k0).op) = 0)) := ⟨_, rfl⟩
     refine SW_H (CS := [(9, (b1 = true → b1 = true)), (10, (b1 = true → b1 = true)), (11, (b1 = true → b1 = true))]) [59, 60, 61] [3, 4, 5, 62] [] hk0 (vk 8 58 (a := .bool (!decide (((nth p.provides k0).op) = 0))) (b := .bool b1) (Imp.of_eq (by rw [hb1])) <| v0) (by refine cc _ ?_ <| cc _ ?_ <| cc _ ?_ c0 <;> first | omega | (simp; omega) | (simp; done) | (intros; simp_all; omega) | (intros; simp_all; done)) ?_
     refine SW_cond (q := b1 && (!decide (((nth p.provides k0).op) = 2))) (by kernel_rfl) (fun c5 => ?_) (fun c5 => ?_)
     ·subst hb1
      try simp only [Bool.and_eq_true, Bool.or_eq_true, Bool.and_eq_false_iff, Bool.or_eq_false_iff, Bool.not_eq_true', Bool.not_eq_false', decide_eq_true_eq, decide_eq_false_iff_not] at c5
      refine SW_P [] [2] ?_
      refine SW_ret ?_
      refine RK wR [(.bool false)] ?_
      exact Same.of_eq (by rw [depsB_bad 0 (j := k0) (by omega) (show k0 < p.provides.length by omega) (show depOk 0 (nth p.provides k0) = false by unfold depOk; by_cases a1 : checkE (nth p.provides k0) = 0 <;> by_cases a2 : (nth p.provides k0).kind = 1 <;> by_cases a3 : (nth p.provides k0).op = 0 <;> by_cases a4 : (nth p.provides k0).op = 2 <;> simp_all)]; rfl)
     ·subst hb1
      try simp only [Bool.and_eq_true, Bool.or_eq_true, Bool.and_eq_false_iff, Bool.or_eq_false_iff, Bool.not_eq_true', Bool.not_eq_false', decide_eq_true_eq, decide_eq_false_iff_not] at c5
      refine SW_skip ?_
      refine SW_reg ?_
      refine SO_HA 0 [] [3, 4, 5] [] hk0 v0 (cc 1 (p := (-9223372036854775808 ≤ (k0 : Int) + 1 ∧ (k0 : Int) + 1 ≤ 9223372036854775807)) (by first | omega | (simp; omega) | (simp; done) | (intros; simp_all; omega) | (intros; simp_all; done)) <| c0) ?_
      refine ⟨by kernel_rfl, _, ?_, k0 + 1, ?_, ?_, (by kernel_rfl), rfl⟩
      ·omega
      ·omega
      ·intro j hj
       by_cases h : j = k0
       ·subst h; unfold depOk; by_cases a1 : checkE (nth p.provides j) = 0 <;> by_cases a2 : (nth p.provides j).kind = 1 <;> by_cases a3 : (nth p.provides j).op = 0 <;> by_cases a4 : (nth p.provides j).op = 2 <;> simp_all
       ·exact f2_2 j (by omega)
  ·refine SW_exit ?_
   refine SW_reg ?_
   refine SO_HA 0 [] [3, 4] [] hk0 v0 (cc 1 (p := (-9223372036854775808 ≤ (1 : Int) ∧ (1 : Int) ≤ 9223372036854775807)) (by first | omega | (simp; omega) | (simp; done) | (intros; simp_all; omega) | (intros; simp_all; done)) <| c0) ?_
   refine SR_round ?_
   refine SW_seq ?_
   refine SW_P [] [3, 4, 12] ?_
   refine SW_true (by kernel_rfl) ?_
   refine SW_skip ?_
   refine SW_seq ?_
   refine SW_block ?_
   refine SW_seq ?_
   refine SW_P [] [3, 4, 20] ?_
   refine SW_if (p := 16 < (p.requires.length : Int)) (by kernel_rfl) (fun c6 => ?_) (fun c6 => ?_)
   ·refine SW_P [] [2] ?_
    refine SW_ret ?_
    refine RK wR [(.bool false)] ?_
    exact Same.of_eq (by rw [depsB_long 1 (by omega) (show 16 < p.requires.length by omega)]; rfl)
   ·refine SW_skip ?_
    refine SW_P [] [3, 4, 5] ?_
    refine SW_block ?_
    refine SW_L (fun g y => ∃ (k1 : Nat), k1 ≤ p.requires.length ∧ (∀ j, j < k1 → depOk 1 (nth p.requires j) = true) ∧ y = ⟨[(3, (.sl 2 0 7 7 false)), (4, (.int .i64 1)), (5, (.int .i64 ((k1 : Int))))], [(2, (.row [(rowOf 5 depX p.provides), (rowOf 5 depX p.requires), (rowOf 5 depX p.pre), (rowOf 5 depX p.conflicts), (rowOf 5 depX p.obsoletes), (rowOf 5 depX p.recommends), (rowOf 5 depX p.supplements)] 23))], 3⟩ ∧ g = p.requires.length - k1) [3, 4, 5] 3 _ (by omega) ⟨0, (by omega), (by exact fun j hj => by omega), (by kernel_rfl), rfl⟩ ?_
    rintro g3 y3 ⟨k1, f3_1, f3_2, rfl, rfl⟩
    refine SW_seq ?_
    refine SW_P [] [3, 4, 5, 27] ?_
    refine SW_if (p := (k1 : Int) < (p.requires.length : Int)) (by kernel_rfl) (fun c7 => ?_) (fun c7 => ?_)
    ·refine SW_skip ?_
     refine SW_seq ?_
     refine SW_block ?_
     refine SW_H [] [3, 4, 5, 6] [] hk0 v0 (cc 5 (p := (0 ≤ (k1 : Int) ∧ k1 < p.requires.length)) (by first | omega | (simp; omega) | (simp; done) | (intros; simp_all; omega) | (intros; simp_all; done)) <| c0) ?_
     refine SW_seq ?_
     refine SW_H [] [3, 4, 5, 6, 39] [(0, 6)] (hk 1 en_52 (refCheckV (nth p.requires k1) (by have := argsSize_nth (l := p.requires) (i := k1) (by omega); omega)) <| hk0) v0 c0 ?_
     refine SW_ifn (p := (checkE (nth p.requires k1)) = 0) (by kernel_rfl) (fun c8 => ?_) (fun c8 => ?_)
     ·refine SW_P [] [2] ?_
      refine SW_ret ?_
      refine RK wR [(.bool false)] ?_
      exact Same.of_eq (by rw [depsB_bad 1 (j := k1) (by omega) (show k1 < p.requires.length by omega) (show depOk 1 (nth p.requires k1) = false by unfold depOk; by_cases a1 : checkE (nth p.requires k1) = 0 <;> by_cases a2 : (nth p.requires k1).kind = 1 <;> by_cases a3 : (nth p.requires k1).op = 0 <;> by_cases a4 : (nth p.requires k1).op = 2 <;> simp_all)]; rfl)
     ·refine SW_skip ?_
      refine SW_seq ?_
      refine SW_P [] [3, 4, 5, 6, 50] ?_
      refine SW_false (by kernel_rfl) ?_
      refine SW_skip ?_
      refine SW_P [] [3, 4, 5, 62] ?_
      refine SW_false (by kernel_rfl) ?_
      refine SW_skip ?_
      refine SW_reg ?_
      refine SO_HA 0 [] [3, 4, 5] [] hk0 v0 (cc 1 (p := (-9223372036854775808 ≤ (k1 : Int) + 1 ∧ (k1 : Int) + 1 ≤ 9223372036854775807)) (by first | omega | (simp; omega) | (simp; done) | (intros; simp_all; omega) | (intros; simp_all; done)) <| c0) ?_
      refine ⟨by kernel_rfl, _, ?_, k1 + 1, ?_, ?_, (by kernel_rfl), rfl⟩
      ·omega
      ·omega
      ·intro j hj
       by_cases h : j = k1
       ·subst h; unfold depOk; by_cases a1 : checkE (nth p.requires j) = 0 <;> by_cases a2 : (nth p.requires j).kind = 1 <;> by_cases a3 : (nth p.requires j).op = 0 <;> by_cases a4 : (nth p.requires j).op = 2 <;> simp_all
       ·exact f3_2 j (by omega)
    ·refine SW_exit ?_
     refine SW_reg ?_
     refine SO_HA 0 [] [3, 4] [] hk0 v0 (cc 1 (p := (-9223372036854775808 ≤ (2 : Int) ∧ (2 : Int) ≤ 9223372036854775807)) (by first | omega | (simp; omega) | (simp; done) | (intros; simp_all; omega) | (intros; simp_all; done)) <| c0) ?_
     refine SR_round ?_
     refine SW_seq ?_
     refine SW_P [] [3, 4, 12] ?_
     refine SW_true (by kernel_rfl) ?_
     refine SW_skip ?_
     refine SW_seq ?_
     refine SW_block ?_
     refine SW_seq ?_
     refine SW_P [] [3, 4, 20] ?_
     refine SW_if (p := 16 < (p.pre.length : Int)) (by kernel_rfl) (fun c9 => ?_) (fun c9 => ?_)
     ·refine SW_P [] [2] ?_
      refine SW_ret ?_
      refine RK wR [(.bool false)] ?_
      exact Same.of_eq (by rw [depsB_long 2 (by omega) (show 16 < p.pre.length by omega)]; rfl)
     ·refine SW_skip ?_
      refine SW_P [] [3, 4, 5] ?_
      refine SW_block ?_
      refine SW_L (fun g y => ∃ (k2 : Nat), k2 ≤ p.pre.length ∧ (∀ j, j < k2 → depOk 2 (nth p.pre j) = true) ∧ y = ⟨[(3, (.sl 2 0 7 7 false)), (4, (.int .i64 2)), (5, (.int .i64 ((k2 : Int))))], [(2, (.row [(rowOf 5 depX p.provides), (rowOf 5 depX p.requires), (rowOf 5 depX p.pre), (rowOf 5 depX p.conflicts), (rowOf 5 depX p.obsoletes), (rowOf 5 depX p.recommends), (rowOf 5 depX p.supplements)] 23))], 3⟩ ∧ g = p.pre.length - k2) [3, 4, 5] 3 _ (by omega) ⟨0, (by omega), (by exact fun j hj => by omega), (by kernel_rfl), rfl⟩ ?_
      rintro g4 y4 ⟨k2, f4_1, f4_2, rfl, rfl⟩
      refine SW_seq ?_
      refine SW_P [] [3, 4, 5, 27] ?_
      refine SW_if (p := (k2 : Int) < (p.pre.length : Int)) (by kernel_rfl) (fun c10 => ?_) (fun c10 => ?_)
      ·refine SW_skip ?_
       refine SW_seq ?_
       refine SW_block ?_
       refine SW_H [] [3, 4, 5, 6] [] hk0 v0 (cc 5 (p := (0 ≤ (k2 : Int) ∧ k2 < p.pre.length)) (by first | omega | (simp; omega) | (simp; done) | (intros; simp_all; omega) | (intros; simp_all; done)) <| c0) ?_
       refine SW_seq ?_
       refine SW_H [] [3, 4, 5, 6, 39] [(0, 6)] (hk 1 en_52 (refCheckV (nth p.pre k2) (by have := argsSize_nth (l := p.pre) (i := k2) (by omega); omega)) <| hk0) v0 c0 ?_
       refine SW_ifn (p := (checkE (nth p.pre k2)) = 0) (by kernel_rfl) (fun c11 => ?_) (fun c11 => ?_)
       ·refine SW_P [] [2] ?_
        refine SW_ret ?_
        refine RK wR [(.bool false)] ?_
        exact Same.of_eq (by rw [depsB_bad 2 (j := k2) (by omega) (show k2 < p.pre.length by omega) (show depOk 2 (nth p.pre k2) = false by unfold depOk; by_cases a1 : checkE (nth p.pre k2) = 0 <;> by_cases a2 : (nth p.pre k2).kind = 1 <;> by_cases a3 : (nth p.pre k2).op = 0 <;> by_cases a4 : (nth p.pre k2).op = 2 <;> simp_all)]; rfl)
       ·refine SW_skip ?_
        refine SW_seq ?_
        refine SW_P [] [3, 4, 5, 6, 50] ?_
        refine SW_false (by kernel_rfl) ?_
        refine SW_skip ?_
        refine SW_P [] [3, 4, 5, 62] ?_
        refine SW_false (by kernel_rfl) ?_
        refine SW_skip ?_
        refine SW_reg ?_
        refine SO_HA 0 [] [3, 4, 5] [] hk0 v0 (cc 1 (p := (-9223372036854775808 ≤ (k2 : Int) + 1 ∧ (k2 : Int) + 1 ≤ 9223372036854775807)) (by first | omega | (simp; omega) | (simp; done) | (intros; simp_all; omega) | (intros; simp_all; done)) <| c0) ?_
        refine ⟨by kernel_rfl, _, ?_, k2 + 1, ?_, ?_, (by kernel_rfl), rfl⟩
        ·omega
        ·omega
        ·intro j hj
         by_cases h : j = k2
         ·subst h; unfold depOk; by_cases a1 : checkE (nth p.pre j) = 0 <;> by_cases a2 : (nth p.pre j).kind = 1 <;> by_cases a3 : (nth p.pre j).op = 0 <;> by_cases a4 : (nth p.pre j).op = 2 <;> simp_all
         ·exact f4_2 j (by omega)
      ·refine SW_exit ?_
       refine SW_reg ?_
       refine SO_HA 0 [] [3, 4] [] hk0 v0 (cc 1 (p := (-9223372036854775808 ≤ (3 : Int) ∧ (3 : Int) ≤ 9223372036854775807)) (by first | omega | (simp; omega) | (simp; done) | (intros; simp_all; omega) | (intros; simp_all; done)) <| c0) ?_
       refine SR_round ?_
       refine SW_seq ?_
       refine SW_P [] [3, 4, 12] ?_
       refine SW_true (by kernel_rfl) ?_
       refine SW_skip ?_
       refine SW_seq ?_
       refine SW_block ?_
       refine SW_seq ?_
       refine SW_P [] [3, 4, 20] ?_
       refine SW_if (p := 16 < (p.conflicts.length : Int)) (by kernel_rfl) (fun c12 => ?_) (fun c12 => ?_)
       ·refine SW_P [] [2] ?_
        refine SW_ret ?_
        refine RK wR [(.bool false)] ?_
        exact Same.of_eq (by rw [depsB_long 3 (by omega) (show 16 < p.conflicts.length by omega)]; rfl)
       ·refine SW_skip ?_
        refine SW_P [] [3, 4, 5] ?_
        refine SW_block ?_
        refine SW_L (fun g y => ∃ (k3 : Nat), k3 ≤ p.conflicts.length ∧ (∀ j, j < k3 → depOk 3 (nth p.conflicts j) = true) ∧ y = ⟨[(3, (.sl 2 0 7 7 false)), (4, (.int .i64 3)), (5, (.int .i64 ((k3 : Int))))], [(2, (.row [(rowOf 5 depX p.provides), (rowOf 5 depX p.requires), (rowOf 5 depX p.pre), (rowOf 5 depX p.conflicts), (rowOf 5 depX p.obsoletes), (rowOf 5 depX p.recommends), (rowOf 5 depX p.supplements)] 23))], 3⟩ ∧ g = p.conflicts.length - k3) [3, 4, 5] 3 _ (by omega) ⟨0, (by omega), (by exact fun j hj => by omega), (by kernel_rfl), rfl⟩ ?_
        rintro g5 y5 ⟨k3, f5_1, f5_2, rfl, rfl⟩
        refine SW_seq ?_
        refine SW_P [] [3, 4, 5, 27] ?_
        refine SW_if (p := (k3 : Int) < (p.conflicts.length : Int)) (by kernel_rfl) (fun c13 => ?_) (fun c13 => ?_)
        ·refine SW_skip ?_
         refine SW_seq ?_
         refine SW_block ?_
         refine SW_H [] [3, 4, 5, 6] [] hk0 v0 (cc 5 (p := (0 ≤ (k3 : Int) ∧ k3 < p.conflicts.length)) (by first | omega | (simp; omega) | (simp; done) | (intros; simp_all; omega) | (intros; simp_all; done)) <| c0) ?_
         refine SW_seq ?_
         refine SW_H [] [3, 4, 5, 6, 39] [(0, 6)] (hk 1 en_52 (refCheckV (nth p.conflicts k3) (by have := argsSize_nth (l := p.conflicts) (i := k3) (by omega); omega)) <| hk0) v0 c0 ?_
         refine SW_ifn (p := (checkE (nth p.conflicts k3)) = 0) (by kernel_rfl) (fun c14 => ?_) (fun c14 => ?_)
         ·refine SW_P [] [2] ?_
          refine SW_ret ?_
          refine RK wR [(.bool false)] ?_
          exact Same.of_eq (by rw [depsB_bad 3 (j := k3) (by omega) (show k3 < p.conflicts.length by omega) (show depOk 3 (nth p.conflicts k3) = false by unfold depOk; by_cases a1 : checkE (nth p.conflicts k3) = 0 <;> by_cases a2 : (nth p.conflicts k3).kind = 1 <;> by_cases a3 : (nth p.conflicts k3).op = 0 <;> by_cases a4 : (nth p.conflicts k3).op = 2 <;> simp_all)]; rfl)
         ·refine SW_skip ?_
          refine SW_seq ?_
          refine SW_P [] [3, 4, 5, 6, 50] ?_
          refine SW_false (by kernel_rfl) ?_
          refine SW_skip ?_
          refine SW_P [] [3, 4, 5, 62] ?_
          refine SW_false (by kernel_rfl) ?_
          refine SW_skip ?_
          refine SW_reg ?_
          refine SO_HA 0 [] [3, 4, 5] [] hk0 v0 (cc 1 (p := (-9223372036854775808 ≤ (k3 : Int) + 1 ∧ (k3 : Int) + 1 ≤ 9223372036854775807)) (by first | omega | (simp; omega) | (simp; done) | (intros; simp_all; omega) | (intros; simp_all; done)) <| c0) ?_
          refine ⟨by kernel_rfl, _, ?_, k3 + 1, ?_, ?_, (by kernel_rfl), rfl⟩
          ·omega
          ·omega
          ·intro j hj
           by_cases h : j = k3
           ·subst h; unfold depOk; by_cases a1 : checkE (nth p.conflicts j) = 0 <;> by_cases a2 : (nth p.conflicts j).kind = 1 <;> by_cases a3 : (nth p.conflicts j).op = 0 <;> by_cases a4 : (nth p.conflicts j).op = 2 <;> simp_all
           ·exact f5_2 j (by omega)
        ·refine SW_exit ?_
         refine SW_reg ?_
         refine SO_HA 0 [] [3, 4] [] hk0 v0 (cc 1 (p := (-9223372036854775808 ≤ (4 : Int) ∧ (4 : Int) ≤ 9223372036854775807)) (by first | omega | (simp; omega) | (simp; done) | (intros; simp_all; omega) | (intros; simp_all; done)) <| c0) ?_
         refine SR_round ?_
         refine SW_seq ?_
         refine SW_P [] [3, 4, 12] ?_
         refine SW_true (by kernel_rfl) ?_
         refine SW_skip ?_
         refine SW_seq ?_
         refine SW_block ?_
         refine SW_seq ?_
         refine SW_P [] [3, 4, 20] ?_
         refine SW_if (p := 16 < (p.obsoletes.length : Int)) (by kernel_rfl) (fun c15 => ?_) (fun c15 => ?_)
         ·refine SW_P [] [2] ?_
          refine SW_ret ?_
          refine RK wR [(.bool false)] ?_
          exact Same.of_eq (by rw [depsB_long 4 (by omega) (show 16 < p.obsoletes.length by omega)]; rfl)
         ·refine SW_skip ?_
          refine SW_P [] [3, 4, 5] ?_
          refine SW_block ?_
          refine SW_L (fun g y => ∃ (k4 : Nat), k4 ≤ p.obsoletes.length ∧ (∀ j, j < k4 → depOk 4 (nth p.obsoletes j) = true) ∧ y = ⟨[(3, (.sl 2 0 7 7 false)), (4, (.int .i64 4)), (5, (.int .i64 ((k4 : Int))))], [(2, (.row [(rowOf 5 depX p.provides), (rowOf 5 depX p.requires), (rowOf 5 depX p.pre), (rowOf 5 depX p.conflicts), (rowOf 5 depX p.obsoletes), (rowOf 5 depX p.recommends), (rowOf 5 depX p.supplements)] 23))], 3⟩ ∧ g = p.obsoletes.length - k4) [3, 4, 5] 3 _ (by omega) ⟨0, (by omega), (by exact fun j hj => by omega), (by kernel_rfl), rfl⟩ ?_
          rintro g6 y6 ⟨k4, f6_1, f6_2, rfl, rfl⟩
          refine SW_seq ?_
          refine SW_P [] [3, 4, 5, 27] ?_
          refine SW_if (p := (k4 : Int) < (p.obsoletes.length : Int)) (by kernel_rfl) (fun c16 => ?_) (fun c16 => ?_)
          ·refine SW_skip ?_
           refine SW_seq ?_
           refine SW_block ?_
           refine SW_H [] [3, 4, 5, 6] [] hk0 v0 (cc 5 (p := (0 ≤ (k4 : Int) ∧ k4 < p.obsoletes.length)) (by first | omega | (simp; omega) | (simp; done) | (intros; simp_all; omega) | (intros; simp_all; done)) <| c0) ?_
           refine SW_seq ?_
           refine SW_H [] [3, 4, 5, 6, 39] [(0, 6)] (hk 1 en_52 (refCheckV (nth p.obsoletes k4) (by have := argsSize_nth (l := p.obsoletes) (i := k4) (by omega); omega)) <| hk0) v0 c0 ?_
           refine SW_ifn (p := (checkE (nth p.obsoletes k4)) = 0) (by kernel_rfl) (fun c17 => ?_) (fun c17 => ?_)
           ·refine SW_P [] [2] ?_
            refine SW_ret ?_
            refine RK wR [(.bool false)] ?_
            exact Same.of_eq (by rw [depsB_bad 4 (j := k4) (by omega) (show k4 < p.obsoletes.length by omega) (show depOk 4 (nth p.obsoletes k4) = false by unfold depOk; by_cases a1 : checkE (nth p.obsoletes k4) = 0 <;> by_cases a2 : (nth p.obsoletes k4).kind = 1 <;> by_cases a3 : (nth p.obsoletes k4).op = 0 <;> by_cases a4 : (nth p.obsoletes k4).op = 2 <;> simp_all)]; rfl)
           ·refine SW_skip ?_
            refine SW_seq ?_
            refine SW_P [] [3, 4, 5, 6, 50] ?_
            refine SW_ifn (p := ((nth p.obsoletes k4).kind) = 1) (by kernel_rfl) (fun c18 => ?_) (fun c18 => ?_)
            ·refine SW_P [] [2] ?_
             refine SW_ret ?_
             refine RK wR [(.bool false)] ?_
             exact Same.of_eq (by rw [depsB_bad 4 (j := k4) (by omega) (show k4 < p.obsoletes.length by omega) (show depOk 4 (nth p.obsoletes k4) = false by unfold depOk; by_cases a1 : checkE (nth p.obsoletes k4) = 0 <;> by_cases a2 : (nth p.obsoletes k4).kind = 1 <;> by_cases a3 : (nth p.obsoletes k4).op = 0 <;> by_cases a4 : (nth p.obsoletes k4).op = 2 <;> simp_all)]; rfl)
            ·refine SW_skip ?_
             refine SW_P [] [3, 4, 5, 62] ?_
             refine SW_false (by kernel_rfl) ?_
             refine SW_skip ?_
             refine SW_reg ?_
             refine SO_HA 0 [] [3, 4, 5] [] hk0 v0 (cc 1 (p := (-9223372036854775808 ≤ (k4 : Int) + 1 ∧ (k4 : Int) + 1 ≤ 9223372036854775807)) (by first | omega | (simp; omega) | (simp; done) | (intros; simp_all; omega) | (intros; simp_all; done)) <| c0) ?_
             refine ⟨by kernel_rfl, _, ?_, k4 + 1, ?_, ?_, (by kernel_rfl), rfl⟩
             ·omega
             ·omega
             ·intro j hj
              by_cases h : j = k4
              ·subst h; unfold depOk; by_cases a1 : checkE (nth p.obsoletes j) = 0 <;> by_cases a2 : (nth p.obsoletes j).kind = 1 <;> by_cases a3 : (nth p.obsoletes j).op = 0 <;> by_cases a4 : (nth p.obsoletes j).op = 2 <;> simp_all
              ·exact f6_2 j (by omega)
          ·refine SW_exit ?_
           refine SW_reg ?_
           refine SO_HA 0 [] [3, 4] [] hk0 v0 (cc 1 (p := (-9223372036854775808 ≤ (5 : Int) ∧ (5 : Int) ≤ 9223372036854775807)) (by first | omega | (simp; omega) | (simp; done) | (intros; simp_all; omega) | (intros; simp_all; done)) <| c0) ?_
           refine SR_round ?_
           refine SW_seq ?_
           refine SW_P [] [3, 4, 12] ?_
           refine SW_true (by kernel_rfl) ?_
           refine SW_skip ?_
           refine SW_seq ?_
           refine SW_block ?_
           refine SW_seq ?_
           refine SW_P [] [3, 4, 20] ?_
           refine SW_if (p := 16 < (p.recommends.length : Int)) (by kernel_rfl) (fun c19 => ?_) (fun c19 => ?_)
           ·refine SW_P [] [2] ?_
            refine SW_ret ?_
            refine RK wR [(.bool false)] ?_
            exact Same.of_eq (by rw [depsB_long 5 (by omega) (show 16 < p.recommends.length by omega)]; rfl)
           ·refine SW_skip ?_
            refine SW_P [] [3, 4, 5] ?_
            refine SW_block ?_
            refine SW_L (fun g y => ∃ (k5 : Nat), k5 ≤ p.recommends.length ∧ (∀ j, j < k5 → depOk 5 (nth p.recommends j) = true) ∧ y = ⟨[(3, (.sl 2 0 7 7 false)), (4, (.int .i64 5)), (5, (.int .i64 ((k5 : Int))))], [(2, (.row [(rowOf 5 depX p.provides), (rowOf 5 depX p.requires), (rowOf 5 depX p.pre), (rowOf 5 depX p.conflicts), (rowOf 5 depX p.obsoletes), (rowOf 5 depX p.recommends), (rowOf 5 depX p.supplements)] 23))], 3⟩ ∧ g = p.recommends.length - k5) [3, 4, 5] 3 _ (by omega) ⟨0, (by omega), (by exact fun j hj => by omega), (by kernel_rfl), rfl⟩ ?_
            rintro g7 y7 ⟨k5, f7_1, f7_2, rfl, rfl⟩
            refine SW_seq ?_
            refine SW_P [] [3, 4, 5, 27] ?_
            refine SW_if (p := (k5 : Int) < (p.recommends.length : Int)) (by kernel_rfl) (fun c20 => ?_) (fun c20 => ?_)
            ·refine SW_skip ?_
             refine SW_seq ?_
             refine SW_block ?_
             refine SW_H [] [3, 4, 5, 6] [] hk0 v0 (cc 5 (p := (0 ≤ (k5 : Int) ∧ k5 < p.recommends.length)) (by first | omega | (simp; omega) | (simp; done) | (intros; simp_all; omega) | (intros; simp_all; done)) <| c0) ?_
             refine SW_seq ?_
             refine SW_H [] [3, 4, 5, 6, 39] [(0, 6)] (hk 1 en_52 (refCheckV (nth p.recommends k5) (by have := argsSize_nth (l := p.recommends) (i := k5) (by omega); omega)) <| hk0) v0 c0 ?_
             refine SW_ifn (p := (checkE (nth p.recommends k5)) = 0) (by kernel_rfl) (fun c21 => ?_) (fun c21 => ?_)
             ·refine SW_P [] [2] ?_
              refine SW_ret ?_
              refine RK wR [(.bool false)] ?_
              exact Same.of_eq (by rw [depsB_bad 5 (j := k5) (by omega) (show k5 < p.recommends.length by omega) (show depOk 5 (nth p.recommends k5) = false by unfold depOk; by_cases a1 : checkE (nth p.recommends k5) = 0 <;> by_cases a2 : (nth p.recommends k5).kind = 1 <;> by_cases a3 : (nth p.recommends k5).op = 0 <;> by_cases a4 : (nth p.recommends k5).op = 2 <;> simp_all)]; rfl)
             ·refine SW_skip ?_
              refine SW_seq ?_
              refine SW_P [] [3, 4, 5, 6, 50] ?_
              refine SW_false (by kernel_rfl) ?_
              refine SW_skip ?_
              refine SW_P [] [3, 4, 5, 62] ?_
              refine SW_false (by kernel_rfl) ?_
              refine SW_skip ?_
              refine SW_reg ?_
              refine SO_HA 0 [] [3, 4, 5] [] hk0 v0 (cc 1 (p := (-9223372036854775808 ≤ (k5 : Int) + 1 ∧ (k5 : Int) + 1 ≤ 9223372036854775807)) (by first | omega | (simp; omega) | (simp; done) | (intros; simp_all; omega) | (intros; simp_all; done)) <| c0) ?_
              refine ⟨by kernel_rfl, _, ?_, k5 + 1, ?_, ?_, (by kernel_rfl), rfl⟩
              ·omega
              ·omega
              ·intro j hj
               by_cases h : j = k5
               ·subst h; unfold depOk; by_cases a1 : checkE (nth p.recommends j) = 0 <;> by_cases a2 : (nth p.recommends j).kind = 1 <;> by_cases a3 : (nth p.recommends j).op = 0 <;> by_cases a4 : (nth p.recommends j).op = 2 <;> simp_all
               ·exact f7_2 j (by omega)
            ·refine SW_exit ?_
             refine SW_reg ?_
             refine SO_HA 0 [] [3, 4] [] hk0 v0 (cc 1 (p := (-9223372036854775808 ≤ (6 : Int) ∧ (6 : Int) ≤ 9223372036854775807)) (by first | omega | (simp; omega) | (simp; done) | (intros; simp_all; omega) | (intros; simp_all; done)) <| c0) ?_
             refine SR_round ?_
             refine SW_seq ?_
             refine SW_P [] [3, 4, 12] ?_
             refine SW_true (by kernel_rfl) ?_
             refine SW_skip ?_
             refine SW_seq ?_
             refine SW_block ?_
             refine SW_seq ?_
             refine SW_P [] [3, 4, 20] ?_
             refine SW_if (p := 16 < (p.supplements.length : Int)) (by kernel_rfl) (fun c22 => ?_) (fun c22 => ?_)
             ·refine SW_P [] [2] ?_
              refine SW_ret ?_
              refine RK wR [(.bool false)] ?_
              exact Same.of_eq (by rw [depsB_long 6 (by omega) (show 16 < p.supplements.length by omega)]; rfl)
             ·refine SW_skip ?_
              refine SW_P [] [3, 4, 5] ?_
              refine SW_block ?_
              refine SW_L (fun g y => ∃ (k6 : Nat), k6 ≤ p.supplements.length ∧ (∀ j, j < k6 → depOk 6 (nth p.supplements j) = true) ∧ y = ⟨[(3, (.sl 2 0 7 7 false)), (4, (.int .i64 6)), (5, (.int .i64 ((k6 : Int))))], [(2, (.row [(rowOf 5 depX p.provides), (rowOf 5 depX p.requires), (rowOf 5 depX p.pre), (rowOf 5 depX p.conflicts), (rowOf 5 depX p.obsoletes), (rowOf 5 depX p.recommends), (rowOf 5 depX p.supplements)] 23))], 3⟩ ∧ g = p.supplements.length - k6) [3, 4, 5] 3 _ (by omega) ⟨0, (by omega), (by exact fun j hj => by omega), (by kernel_rfl), rfl⟩ ?_
              rintro g8 y8 ⟨k6, f8_1, f8_2, rfl, rfl⟩
              refine SW_seq ?_
              refine SW_P [] [3, 4, 5, 27] ?_
              refine SW_if (p := (k6 : Int) < (p.supplements.length : Int)) (by kernel_rfl) (fun c23 => ?_) (fun c23 => ?_)
              ·refine SW_skip ?_
               refine SW_seq ?_
               refine SW_block ?_
               refine SW_H [] [3, 4, 5, 6] [] hk0 v0 (cc 5 (p := (0 ≤ (k6 : Int) ∧ k6 < p.supplements.length)) (by first | omega | (simp; omega) | (simp; done) | (intros; simp_all; omega) | (intros; simp_all; done)) <| c0) ?_
               refine SW_seq ?_
               refine SW_H [] [3, 4, 5, 6, 39] [(0, 6)] (hk 1 en_52 (refCheckV (nth p.supplements k6) (by have := argsSize_nth (l := p.supplements) (i := k6) (by omega); omega)) <| hk0) v0 c0 ?_
               refine SW_ifn (p := (checkE (nth p.supplements k6)) = 0) (by kernel_rfl) (fun c24 => ?_) (fun c24 => ?_)
               ·refine SW_P [] [2] ?_
                refine SW_ret ?_
                refine RK wR [(.bool false)] ?_
                exact Same.of_eq (by rw [depsB_bad 6 (j := k6) (by omega) (show k6 < p.supplements.length by omega) (show depOk 6 (nth p.supplements k6) = false by unfold depOk; by_cases a1 : checkE (nth p.supplements k6) = 0 <;> by_cases a2 : (nth p.supplements k6).kind = 1 <;> by_cases a3 : (nth p.supplements k6).op = 0 <;> by_cases a4 : (nth p.supplements k6).op = 2 <;> simp_all)]; rfl)
               ·refine SW_skip ?_
                refine SW_seq ?_
                refine SW_P [] [3, 4, 5, 6, 50] ?_
                refine SW_false (by kernel_rfl) ?_
                refine SW_skip ?_
                refine SW_P [] [3, 4, 5, 62] ?_
                refine SW_false (by kernel_rfl) ?_
                refine SW_skip ?_
                refine SW_reg ?_
                refine SO_HA 0 [] [3, 4, 5] [] hk0 v0 (cc 1 (p := (-9223372036854775808 ≤ (k6 : Int) + 1 ∧ (k6 : Int) + 1 ≤ 9223372036854775807)) (by first | omega | (simp; omega) | (simp; done) | (intros; simp_all; omega) | (intros; simp_all; done)) <| c0) ?_
                refine ⟨by kernel_rfl, _, ?_, k6 + 1, ?_, ?_, (by kernel_rfl), rfl⟩
                ·omega
                ·omega
                ·intro j hj
                 by_cases h : j = k6
                 ·subst h; unfold depOk; by_cases a1 : checkE (nth p.supplements j) = 0 <;> by_cases a2 : (nth p.supplements j).kind = 1 <;> by_cases a3 : (nth p.supplements j).op = 0 <;> by_cases a4 : (nth p.supplements j).op = 2 <;> simp_all
                 ·exact f8_2 j (by omega)
              ·refine SW_exit ?_
               refine SW_reg ?_
               refine SO_HA 0 [] [3, 4] [] hk0 v0 (cc 1 (p := (-9223372036854775808 ≤ (7 : Int) ∧ (7 : Int) ≤ 9223372036854775807)) (by first | omega | (simp; omega) | (simp; done) | (intros; simp_all; omega) | (intros; simp_all; done)) <| c0) ?_
               refine SR_round ?_
               refine SW_seq ?_
               refine SW_P [] [3, 4, 12] ?_
               refine SW_false (by kernel_rfl) ?_
               refine SW_exit ?_
               refine SW_P [] [2] ?_
               refine SW_ret ?_
               refine RK wR [(.bool true)] ?_
               exact Same.of_eq (by rw [depsB_yes (listOk_mk (k := k0) (by omega) (by omega) f2_2) (listOk_mk (k := k1) (by omega) (by omega) f3_2) (listOk_mk (k := k2) (by omega) (by omega) f4_2) (listOk_mk (k := k3) (by omega) (by omega) f5_2) (listOk_mk (k := k4) (by omega) (by omega) f6_2) (listOk_mk (k := k5) (by omega) (by omega) f7_2) (listOk_mk (k := k6) (by omega) (by omega) f8_2)]; rfl)
end Sv
end Go.Proofs.YtlfjokcbkopfeaaGreatDoor
end
section
namespace Go.Proofs.YtlfjokcbkopfeaaGreatDoor
open Go Go.RowKit
namespace Sv
attribute [local irreducible] SW SO holds
def smallN (x : Nat) : Bool := (decide (97 ≤ x) && decide (x ≤ 122)) || (decide (48 ≤ x) && decide (x ≤ 57)) || decide (x = 95)
def seenN (x : Nat) : Bool := decide (32 ≤ x) && decide (x ≤ 126)
def allQ (s : List UInt8) (most : Int) (q : Nat → Bool) : Bool := decide ((s.length : Int) ≤ most) && decide (Lib.idxFunc (fun x => !q x) true ⟨s.toArray⟩ < 0)
theorem allQ_eq (s : List UInt8) (most : Int) {q : Nat → Bool} (hq : ∀ r, 128 ≤ r → q r = false) : allQ s most q = (decide ((s.length : Int) ≤ most) && s.all fun b => q b.toNat) := by
 unfold allQ; rw [idxFunc_all (fun r hr => by rw [hq r hr]; rfl)]; simp
theorem small_high (r : Nat) (h : 128 ≤ r) : smallN r = false := by unfold smallN; simp; omega
theorem seen_high (r : Nat) (h : 128 ≤ r) : seenN r = false := by unfold seenN; simp; omega
theorem all_byte_no {s : List UInt8} {q : Nat → Bool} {i : Nat} (hi : i < s.length) (h : q (byteAt s i).toNat = false) : (s.all fun b => q b.toNat) = false := by
 rw [List.all_eq_false]
 rw [byteAt_eq hi] at h
 exact ⟨s[i], List.getElem_mem hi, by simp [h]⟩
theorem all_byte_yes {s : List UInt8} {q : Nat → Bool} {i : Nat} (hi : s.length ≤ i) (h : ∀ j, j < i → q (byteAt s j).toNat = true) : (s.all fun b => q b.toNat) = true := by
 rw [List.all_eq_true]
 intro x hx
 obtain ⟨j, hj, rfl⟩ := List.getElem_of_mem hx
 have := h j (by omega)
 rwa [byteAt_eq hj] at this
def archB (s : List UInt8) : Bool := decide (1 ≤ s.length) && decide (s.length ≤ 20) && s.all fun b => smallN b.toNat
def fileB (f : List UInt8) : Bool := headIs f 47 && nameB f
def seenB (s : List UInt8) : Bool := s.all fun b => seenN b.toNat
def filesB (l : List (List UInt8)) : Bool := decide (l.length ≤ 16) && l.all fileB
def anyBad (l : List (List UInt8)) : Bool := l.any fun x => !fileB x
def pkgE (p : PkgT) : Int :=
 if nameB p.name = false then 60
 else if evrE p.evr ≠ 0 then 61
 else if archB p.arch = false then 62
 else if (decide (p.vendor.length ≤ 60) && seenB p.vendor) = false then 63
 else if depsB p = false then 64
 else if filesB p.files = false then 65
 else 0
def pkgP (p : PkgT) : Int :=
 if nameB p.name = false then 60
 else if ¬ evrE p.evr = 0 then 61
 else if p.arch = [] ∨ allQ p.arch 20 smallN = false then 62
 else if allQ p.vendor 60 seenN = false then 63
 else if depsB p = false then 64
 else if (16 : Int) < (p.files.length : Int) ∨ anyBad p.files = true then 65
 else 0
theorem pkgP_eq (p : PkgT) : pkgP p = pkgE p := by
 have ha1 : (p.arch = [] ∨ allQ p.arch 20 smallN = false) ↔ archB p.arch = false := by
  rw [allQ_eq p.arch 20 small_high]
  unfold archB
  cases h : p.arch with
  | nil => simp
  | cons a r =>
   rw [show decide (1 ≤ (a :: r).length) = true by simp, Bool.true_and]
   rw [show decide (((a :: r).length : Int) ≤ 20) = decide ((a :: r).length ≤ 20) from decide_eq_decide.2 (by omega)]
   simp
 have ha2 : allQ p.vendor 60 seenN = (decide (p.vendor.length ≤ 60) && seenB p.vendor) := by
  unfold seenB
  rw [allQ_eq p.vendor 60 seen_high, show decide ((p.vendor.length : Int) ≤ 60) = decide (p.vendor.length ≤ 60) from decide_eq_decide.2 (by omega)]
 have ha3 : ((16 : Int) < (p.files.length : Int) ∨ anyBad p.files = true) ↔ filesB p.files = false := by
  unfold anyBad filesB
  rw [any_not]
  simp only [Bool.and_eq_false_iff, decide_eq_false_iff_not, Bool.not_eq_true']
  constructor
  ·rintro (h | h)
   ·left; omega
   ·exact .inr h
  ·rintro (h | h)
   ·left; omega
   ·exact .inr h
 unfold pkgP pkgE
 simp only [ha1, ha2, ha3]
def pkgR (p : PkgT) : Int :=
 if nameB p.name = false then 60
 else if ¬ evrE p.evr = 0 then 61
 else if archB p.arch = false then 62
 else if seenB p.vendor = false ∨ (60 : Int) < (p.vendor.length : Int) then 63
 else if depsB p = false then 64
 else if filesB p.files = false then 65
 else 0
theorem pkgR_eq (p : PkgT) : pkgR p = pkgE p := by
 have ha : (seenB p.vendor = false ∨ (60 : Int) < (p.vendor.length : Int)) ↔ (decide (p.vendor.length ≤ 60) && seenB p.vendor) = false := by
  simp only [Bool.and_eq_false_iff, decide_eq_false_iff_not]
  constructor
  ·rintro (h | h)
   ·exact .inr h
   ·left; omega
  ·rintro (h | h)
   ·right; omega
   ·exact .inl h
 unfold pkgR pkgE
 simp only [ha]
theorem fileB_at {f : List UInt8} : fileB f = (nameB f && decide (((byteAt f 0).toNat : Int) = 47)) := by
 unfold fileB
 cases f with
 | nil => rw [show nameB [] = false by decide]; simp
 | cons a r =>
  have h1 : headIs (a :: r) 47 = decide (a = 47) := by simp [headIs]
  have h2 : byteAt (a :: r) 0 = a := by simp [byteAt]
  rw [h1, h2, Bool.and_comm]
  congr 1
  refine decide_eq_decide.2 ⟨fun h => by rw [h]; rfl, fun h => UInt8.toNat_inj.1 (by show _ = 47; omega)⟩
set_option maxHeartbeats 400000 in
set_option maxRecDepth 100000 in
theorem small_any (x : Nat) :
  FnV Tryz.prog 97 [(.int .i32 ((x : Int)))] (.bool (smallN x)) := by
 refine FnV_intro [.tmp 2] Tryz.func97 rfl Tryz.ntmps97 rfl rfl (fun B F hF => ?_)
 refine SW_P [] [0] ?_
 obtain ⟨b1, hb1⟩ : ∃ b, b = (decide (97 ≤ (x : Int))) := ⟨_, rfl⟩
 obtain ⟨b2, hb2⟩ : ∃ b, b = (b1 && (decide ((x : Int) ≤ 122))) := ⟨_, rfl⟩
 obtain ⟨b3, hb3⟩ : ∃ b, b = (b2 || ((decide (48 ≤ (x : Int))) && (decide ((x : Int) ≤ 57)))) := ⟨_, rfl⟩
 refine SW_H (CS := [(4, (b1 = true → b1 = true)), (5, (b1 = true → b1 = true)), (8, ((!b2) = true → (!b2) = true)), (9, ((!b2) = true → (!b2) = true)), (11, (((!b2) && (decide (48 ≤ (x : Int)))) = true → ((!b2) && (decide (48 ≤ (x : Int)))) = true)), (12, ((!b2) = true → ((!b2) = true) ∧ ((decide (48 ≤ (x : Int))) = true → ((!b2) && (decide (48 ≤ (x : Int)))) = true))), (13, (b2 = false → (!b2) = true)), (16, ((!b3) = true → (!b3) = true)), (17, (b3 = false → (!b3) = true))]) [6, 7, 10, 11, 12, 13, 14, 15, 18, 19] [2] [] hk0 (vk 3 5 (a := .bool (decide (97 ≤ (x : Int)))) (b := .bool b1) (Imp.of_eq (by rw [hb1])) <| vk 7 9 (a := .bool (b1 && (decide ((x : Int) ≤ 122)))) (b := .bool b2) (Imp.of_eq (by rw [hb2])) <| vk 14 16 (a := .bool (b2 || ((decide (48 ≤ (x : Int))) && (decide ((x : Int) ≤ 57))))) (b := .bool b3) (Imp.of_eq (by rw [hb3])) <| v0) (by refine cc _ ?_ <| cc _ ?_ <| cc _ ?_ <| cc _ ?_ <| cc _ ?_ <| cc _ ?_ <| cc _ ?_ <| cc _ ?_ <| cc _ ?_ c0 <;> first | omega | (simp; omega) | (simp; done) | (intros; simp_all; omega) | (intros; simp_all; done)) ?_
 refine SW_ret ?_
 refine RK wR [(.bool (b3 || (decide ((x : Int) = 95))))] ?_
 subst hb3 hb2 hb1
 refine Same.of_eq ?_
 simp only [pack]
 congr 1
 unfold smallN
 rw [Bool.eq_iff_iff]
 simp only [Bool.and_eq_true, Bool.or_eq_true, decide_eq_true_eq]
 omega
set_option maxHeartbeats 400000 in
set_option maxRecDepth 100000 in
theorem seen_any (x : Nat) :
  FnV Tryz.prog 98 [(.int .i32 ((x : Int)))] (.bool (seenN x)) := by
 refine FnV_intro [.tmp 2] Tryz.func98 rfl Tryz.ntmps98 rfl rfl (fun B F hF => ?_)
 refine SW_P [] [0] ?_
 obtain ⟨b1, hb1⟩ : ∃ b, b = (decide (32 ≤ (x : Int))) := ⟨_, rfl⟩
 refine SW_H (CS := [(4, (b1 = true → b1 = true)), (5, (b1 = true → b1 = true))]) [6, 7] [2] [] hk0 (vk 3 5 (a := .bool (decide (32 ≤ (x : Int)))) (b := .bool b1) (Imp.of_eq (by rw [hb1])) <| v0) (by refine cc _ ?_ <| cc _ ?_ c0 <;> first | omega | (simp; omega) | (simp; done) | (intros; simp_all; omega) | (intros; simp_all; done)) ?_
 refine SW_ret ?_
 refine RK wR [(.bool (b1 && (decide ((x : Int) ≤ 126))))] ?_
 subst hb1
 refine Same.of_eq ?_
 simp only [pack]
 congr 1
 unfold seenN
 rw [Bool.eq_iff_iff]
 simp only [Bool.and_eq_true, Bool.or_eq_true, decide_eq_true_eq]
 omega
set_option maxHeartbeats 400000 in
set_option maxRecDepth 100000 in
theorem not_any (x : Nat) (a : AV) (q : Nat → Bool) (hx : x ≤ 1114111) (ha : ∀ x : Nat, x ≤ 1114111 → FunV Tryz.prog a [.int .i32 (x : Int)] (.bool (q x))) :
  FnV Tryz.prog 101 [(.int .i32 ((x : Int))), (.fp (.agg [(.clo a)]))] (.bool (!q x)) := by
 refine FnV_intro [.tmp 3] Tryz.func101 rfl Tryz.ntmps101 rfl rfl (fun B F hF => ?_)
 refine SW_P [] [0, 1] ?_
 refine SW_seq ?_
 refine SW_reg ?_
 refine SO_H 2 0 [] [4, 5] [] hk0 v0 c0 ?_
 refine SO_callA (s' := [(4, (.clo a)), (5, (.int .i32 ((x : Int)))), (6, (.bool (q x)))]) (a := (.clo a)) (al := [(.int .i32 ((x : Int)))]) (r := (.bool (q x))) (by kernel_rfl) (by kernel_rfl) (by kernel_rfl) (by kernel_rfl) (by kernel_rfl) ((ha x hx).clo) (by kernel_rfl) ?_
 refine SO_HA 3 [] [3] [] hk0 v0 c0 ?_
 refine SW_ret ?_
 refine RK wR [(.bool (!(q x)))] ?_
 exact Same.of_eq (by first | rfl | (simp only [pack]; simp_all))
set_option maxHeartbeats 400000 in
set_option maxRecDepth 100000 in
theorem all_ok (s : List UInt8) (most : Int) (a : AV) (q : Nat → Bool) (hl : s.length ≤ 9223372036854775807) (ha : ∀ x : Nat, x ≤ 1114111 → FunV Tryz.prog a [.int .i32 (x : Int)] (.bool (q x))) :
  FnV Tryz.prog 99 [(.str s), (.int .i64 most), (.clo a)] (.bool (allQ s most q)) := by
 refine FnV_intro [.tmp 6] Tryz.func99 rfl Tryz.ntmps99 rfl rfl (fun B F hF => ?_)
 refine SW_P [] [0, 1, 5] ?_
 refine SW_seq ?_
 refine SW_reg ?_
 obtain ⟨b2, hb2⟩ : ∃ b, b = (decide ((s.length : Int) ≤ most)) := ⟨_, rfl⟩
 refine SO_H 7 0 [12, 13] [11, 12, 13] [] hk0 (vk 5 11 (a := .bool (decide ((s.length : Int) ≤ most))) (b := .bool b2) (Imp.of_eq (by rw [hb2])) <| v0) c0 ?_
 refine SO_callBg (s' := [(11, (.bool b2)), (12, (.cond b2 (.str s))), (13, (.cond b2 (.fn 101 [] [(.ptr 0 0)]))), (14, (.cond b2 (.int .i64 (Lib.idxFunc (fun x => !q x) true ⟨s.toArray⟩))))]) (q := b2) (al := [(.str s), (.fn 101 [] [(.ptr 0 0)])]) (al' := [(.str s), (.fn 101 [] [(.fp (.agg [(.clo a)]))])]) (h' := []) (r := (.int .i64 (Lib.idxFunc (fun x => !q x) true ⟨s.toArray⟩))) (by kernel_rfl) (by exact en_100) (by kernel_rfl) (ndOk (some (b2 = true ∧ b2 = true)) (by kernel_rfl) fun cg => hold (by first | omega | (simp; omega) | (simp; done) | (intros; simp_all; omega) | (intros; simp_all; done))) (by kernel_rfl) (fun cg => IndexFuncV s 101 [.fp (.agg [.clo a])] (fun x => !q x) (by exact en_101) rfl (fun x hx => not_any x a q hx ha)) rfl (by kernel_rfl) ?_
 obtain ⟨b3, hb3⟩ : ∃ b, b = (b2 && (decide ((Lib.idxFunc (fun x => !q x) true ⟨s.toArray⟩) < 0))) := ⟨_, rfl⟩
 refine SO_HA (CS := [(8, (b2 = true → b2 = true)), (9, (b2 = true → b2 = true))]) 8 [15] [6] [] hk0 (vk 10 16 (a := .bool (b2 && (decide ((Lib.idxFunc (fun x => !q x) true ⟨s.toArray⟩) < 0)))) (b := .bool b3) (Imp.of_eq (by rw [hb3])) <| v0) (by refine cc _ ?_ <| cc _ ?_ c0 <;> first | omega | (simp; omega) | (simp; done) | (intros; simp_all; omega) | (intros; simp_all; done)) ?_
 refine SW_ret ?_
 refine RK wR [(.bool b3)] ?_
 subst hb3 hb2
 exact Same.of_eq (by first | rfl | (simp only [pack]; simp_all))
set_option maxHeartbeats 400000 in
set_option maxRecDepth 100000 in
theorem file_any (s : List UInt8) (hl : s.length ≤ 9223372036854775807) :
  FnV Tryz.prog 105 [(.str s)] (.bool (!fileB s)) := by
 refine FnV_intro [.tmp 2] Tryz.func105 rfl Tryz.ntmps105 rfl rfl (fun B F hF => ?_)
 refine SW_P [] [0] ?_
 refine SW_H (CS := [(5, (!(!(headIs s 47))) = true → (!(!(headIs s 47))) = true), (6, ((!(!(headIs s 47))) = true → (!(!(headIs s 47))) = true)), (7, ((!(headIs s 47)) = false → (!(!(headIs s 47))) = true))]) [7, 9] [2] [] (hk 1 en_106 (HasPrefixV s 47 hl) <| hkg 5 (!(!(headIs s 47))) en_46 (fun cg => NameV s hl) <| hk0) v0 (by refine cc _ ?_ <| cc _ ?_ <| cc _ ?_ c0 <;> first | omega | (simp; omega) | (simp; done) | (intros; simp_all; omega) | (intros; simp_all; done)) ?_
 refine SW_ret ?_
 refine RK wR [(.bool ((!(headIs s 47)) || (!(nameB s))))] ?_
 exact Same.of_eq (by simp only [pack]; congr 1; unfold fileB; cases headIs s 47 <;> cases nameB s <;> rfl)
set_option maxHeartbeats 1000000 in
set_option maxRecDepth 100000 in
theorem Check_ok (p : PkgT) (hs : p.size ≤ 4194304) :
  FnV Tryz.prog 50 [(pkgX p)] (.int .i64 (pkgE p)) := by
 have hsz := p.sizes
 have hfl := files_len p.files
 refine FnV_intro [.tmp 2] Tryz.func50 rfl Tryz.ntmps50 rfl rfl (fun B F hF => ?_)
 refine SW_H [] [1] [(1, 1)] hk0 v0 c0 ?_
 refine SW_P [] [1, 3] ?_
 refine SW_P [] [1, 3, 4] ?_
 refine SW_P [] [1, 3, 4, 5] ?_
 refine SW_H [] [1, 3, 4, 5, 7] [(8, 6)] (hk 2 en_102 (evrParseV p.evr (by omega)) <| hk0) v0 c0 ?_
 refine SW_seq ?_
 refine SW_block ?_
 refine SW_H [] [1, 3, 4, 5, 7, 14] [] (hk 2 en_46 (NameV p.name (by omega)) <| hk0) v0 c0 ?_
 refine SW_cond (q := !(nameB p.name)) (by kernel_rfl) (fun c1 => ?_) (fun c1 => ?_)
 ·try simp only [Bool.and_eq_true, Bool.or_eq_true, Bool.and_eq_false_iff, Bool.or_eq_false_iff, Bool.not_eq_true', Bool.not_eq_false', decide_eq_true_eq, decide_eq_false_iff_not] at c1
  refine SW_P [] [2] ?_
  refine SW_ret ?_
  refine RK wR [(.int .i64 60)] ?_
  refine Same.of_eq ?_
  simp only [pack]
  congr 1
  rw [← pkgP_eq]
  unfold pkgP
  simp_all
 ·try simp only [Bool.and_eq_true, Bool.or_eq_true, Bool.and_eq_false_iff, Bool.or_eq_false_iff, Bool.not_eq_true', Bool.not_eq_false', decide_eq_true_eq, decide_eq_false_iff_not] at c1
  refine SW_P [] [1, 3, 4, 5, 19] ?_
  refine SW_ifn (p := (evrE p.evr) = 0) (by kernel_rfl) (fun c2 => ?_) (fun c2 => ?_)
  ·refine SW_P [] [2] ?_
   refine SW_ret ?_
   refine RK wR [(.int .i64 61)] ?_
   refine Same.of_eq ?_
   simp only [pack]
   congr 1
   rw [← pkgP_eq]
   unfold pkgP
   simp_all
  ·refine SW_seq ?_
   refine SW_reg ?_
   obtain ⟨b2, hb2⟩ : ∃ b, b = (decide (p.arch = [])) := ⟨_, rfl⟩
   refine SO_H 8 0 [27, 28, 29, 30] [1, 4, 5, 26, 27, 29, 30] [] hk0 (vk 4 26 (a := .bool (decide (p.arch = []))) (b := .bool b2) (Imp.of_eq (by rw [hb2])) <| v0) (cc 6 (p := ((!b2) = true → (!b2) = true)) (by first | omega | (simp; omega) | (simp; done) | (intros; simp_all; omega) | (intros; simp_all; done)) <| c0) ?_
   refine SO_callvg (s' := [(1, (.fp (pkgX p))), (4, (.fn 98 [] [])), (5, (.fn 99 [] [])), (26, (.bool b2)), (27, (.cond (!b2) (.fn 99 [] []))), (29, (.cond (!b2) (.str p.arch))), (30, (.cond (!b2) (.fn 97 [] []))), (31, (.cond (!b2) (.bool (allQ p.arch 20 smallN))))]) (q := !b2) (al := [(.str p.arch), (.int .i64 20), (.fn 97 [] [])]) (f := 99) (cap := []) (r := (.bool (allQ p.arch 20 smallN))) (by kernel_rfl) (fun cg => .inr ⟨!b2, by kernel_rfl, by first | exact cg | simp_all⟩) (by exact en_99) (by kernel_rfl) (ndOk (some ((!b2) = true ∧ (!b2) = true)) (by kernel_rfl) fun cg => hold (by first | omega | (simp; omega) | (simp; done) | (intros; simp_all; omega) | (intros; simp_all; done))) (by kernel_rfl) (fun cg => (all_ok p.arch 20 (.fn 97 [] []) smallN (by omega) (fun x _ => FunV.of (by exact en_97) (small_any x))).of_args (ImpL.cons Imp.refl (ImpL.cons Imp.refl (ImpL.cons (Imp.clo rfl) ImpL.nil)))) (by kernel_rfl) ?_
   refine SO_HA (CS := [(9, ((!b2) = true → (!b2) = true)), (10, (b2 = false → (!b2) = true))]) 9 [32] [1, 4, 5, 22] [] hk0 v0 (by refine cc _ ?_ <| cc _ ?_ c0 <;> first | omega | (simp; omega) | (simp; done) | (intros; simp_all; omega) | (intros; simp_all; done)) ?_
   refine SW_cond (q := b2 || (!(allQ p.arch 20 smallN))) (by kernel_rfl) (fun c3 => ?_) (fun c3 => ?_)
   ·subst hb2
    try simp only [Bool.and_eq_true, Bool.or_eq_true, Bool.and_eq_false_iff, Bool.or_eq_false_iff, Bool.not_eq_true', Bool.not_eq_false', decide_eq_true_eq, decide_eq_false_iff_not] at c3
    refine SW_P [] [2] ?_
    refine SW_ret ?_
    refine RK wR [(.int .i64 62)] ?_
    refine Same.of_eq ?_
    simp only [pack]
    congr 1
    rw [← pkgP_eq]
    unfold pkgP
    simp_all
   ·subst hb2
    try simp only [Bool.and_eq_true, Bool.or_eq_true, Bool.and_eq_false_iff, Bool.or_eq_false_iff, Bool.not_eq_true', Bool.not_eq_false', decide_eq_true_eq, decide_eq_false_iff_not] at c3
    refine SW_seq ?_
    refine SW_reg ?_
    refine SO_H 4 0 [] [1, 35, 37, 38] [] hk0 v0 c0 ?_
    refine SO_callv (f := 99) (cap := []) (s' := [(1, (.fp (pkgX p))), (35, (.fn 99 [] [])), (37, (.str p.vendor)), (38, (.fn 98 [] [])), (39, (.bool (allQ p.vendor 60 seenN)))]) (al := [(.str p.vendor), (.int .i64 60), (.fn 98 [] [])]) (r := (.bool (allQ p.vendor 60 seenN))) (by kernel_rfl) (by kernel_rfl) (by exact en_99) (by kernel_rfl) (by kernel_rfl) ((all_ok p.vendor 60 (.fn 98 [] []) seenN (by omega) (fun x _ => FunV.of (by exact en_98) (seen_any x))).of_args (ImpL.cons Imp.refl (ImpL.cons Imp.refl (ImpL.cons (Imp.clo rfl) ImpL.nil)))) (by kernel_rfl) ?_
    refine SO_HA 5 [] [1, 34] [] hk0 v0 c0 ?_
    refine SW_cond (q := !(allQ p.vendor 60 seenN)) (by kernel_rfl) (fun c4 => ?_) (fun c4 => ?_)
    ·try simp only [Bool.and_eq_true, Bool.or_eq_true, Bool.and_eq_false_iff, Bool.or_eq_false_iff, Bool.not_eq_true', Bool.not_eq_false', decide_eq_true_eq, decide_eq_false_iff_not] at c4
     refine SW_P [] [2] ?_
     refine SW_ret ?_
     refine RK wR [(.int .i64 63)] ?_
     refine Same.of_eq ?_
     simp only [pack]
     congr 1
     rw [← pkgP_eq]
     unfold pkgP
     simp_all
    ·try simp only [Bool.and_eq_true, Bool.or_eq_true, Bool.and_eq_false_iff, Bool.or_eq_false_iff, Bool.not_eq_true', Bool.not_eq_false', decide_eq_true_eq, decide_eq_false_iff_not] at c4
     refine SW_H [] [1, 41] [] (hk 1 en_103 (deps_ok p (by omega)) <| hk0) v0 c0 ?_
     refine SW_cond (q := !(depsB p)) (by kernel_rfl) (fun c5 => ?_) (fun c5 => ?_)
     ·try simp only [Bool.and_eq_true, Bool.or_eq_true, Bool.and_eq_false_iff, Bool.or_eq_false_iff, Bool.not_eq_true', Bool.not_eq_false', decide_eq_true_eq, decide_eq_false_iff_not] at c5
      refine SW_P [] [2] ?_
      refine SW_ret ?_
      refine RK wR [(.int .i64 64)] ?_
      refine Same.of_eq ?_
      simp only [pack]
      congr 1
      rw [← pkgP_eq]
      unfold pkgP
      simp_all
     ·try simp only [Bool.and_eq_true, Bool.or_eq_true, Bool.and_eq_false_iff, Bool.or_eq_false_iff, Bool.not_eq_true', Bool.not_eq_false', decide_eq_true_eq, decide_eq_false_iff_not] at c5
      obtain ⟨b3, hb3⟩ : ∃ b, b = (decide (16 < (p.files.length : Int))) := ⟨_, rfl⟩
      refine SW_H (CS := [(6, ((!b3) = true → (!b3) = true)), (7, (!b3) = true → (!b3) = true), (8, (b3 = false → (!b3) = true))]) [51, 52] [45] [] (hkg 7 (!b3) (al := [(strs p.files), (.fn 105 [] [])]) en_104 (fun cg => (strF_has p.files (.fn 105 [] []) (fun x => !fileB x) (by omega) (fun i hi => FunV.of (by exact en_105) (file_any (nth p.files i) (by have := file_len hi; omega)))).of_args (ImpL.cons Imp.refl (ImpL.cons (Imp.clo rfl) ImpL.nil))) <| hk0) (vk 5 50 (a := .bool (decide (16 < (p.files.length : Int)))) (b := .bool b3) (Imp.of_eq (by rw [hb3])) <| v0) (by refine cc _ ?_ <| cc _ ?_ <| cc _ ?_ c0 <;> first | omega | (simp; omega) | (simp; done) | (intros; simp_all; omega) | (intros; simp_all; done)) ?_
      refine SW_cond (q := b3 || (anyBad p.files)) (by kernel_rfl) (fun c6 => ?_) (fun c6 => ?_)
      ·subst hb3
       try simp only [Bool.and_eq_true, Bool.or_eq_true, Bool.and_eq_false_iff, Bool.or_eq_false_iff, Bool.not_eq_true', Bool.not_eq_false', decide_eq_true_eq, decide_eq_false_iff_not] at c6
       refine SW_P [] [2] ?_
       refine SW_ret ?_
       refine RK wR [(.int .i64 65)] ?_
       refine Same.of_eq ?_
       simp only [pack]
       congr 1
       rw [← pkgP_eq]
       unfold pkgP
       simp_all
      ·subst hb3
       try simp only [Bool.and_eq_true, Bool.or_eq_true, Bool.and_eq_false_iff, Bool.or_eq_false_iff, Bool.not_eq_true', Bool.not_eq_false', decide_eq_true_eq, decide_eq_false_iff_not] at c6
       refine SW_skip ?_
       refine SW_P [] [2] ?_
       refine SW_ret ?_
       refine RK wR [(.int .i64 0)] ?_
       refine Same.of_eq ?_
       simp only [pack]
       congr 1
       rw [← pkgP_eq]
       unfold pkgP
       simp_all
set_option maxHeartbeats 400000 in
set_option maxRecDepth 100000 in
theorem refArch_any (s : List UInt8) (hl : s.length ≤ 9223372036854775807) :
  FnV Tryz.prog 142 [(.str s)] (.bool (archB s)) := by
 refine FnV_intro [.tmp 2] Tryz.func142 rfl Tryz.ntmps142 rfl rfl (fun B F hF => ?_)
 refine SW_P [] [0] ?_
 refine SW_seq ?_
 refine SW_P [] [0, 3] ?_
 refine SW_block ?_
 refine SW_L (fun g y => ∃ (i : Nat), i ≤ s.length ∧ (∀ j, j < i → smallN (byteAt s j).toNat = true) ∧ y = ⟨[(0, (.str s)), (3, (.int .i64 ((i : Int))))], [], 0⟩ ∧ g = s.length - i) [0, 3] 0 _ (by omega) ⟨0, (by omega), (by exact fun j hj => by omega), (by kernel_rfl), rfl⟩ ?_
 rintro g1 y1 ⟨i, f1_1, f1_2, rfl, rfl⟩
 refine SW_seq ?_
 refine SW_P [] [0, 3, 8] ?_
 refine SW_if (p := (i : Int) < (s.length : Int)) (by kernel_rfl) (fun c1 => ?_) (fun c1 => ?_)
 ·refine SW_skip ?_
  refine SW_seq ?_
  refine SW_block ?_
  refine SW_H [] [0, 3, 4] [] hk0 v0 (cc 2 (p := (0 ≤ (i : Int) ∧ i < s.length)) (by first | omega | (simp; omega) | (simp; done) | (intros; simp_all; omega) | (intros; simp_all; done)) <| c0) ?_
  obtain ⟨b1, hb1⟩ : ∃ b, b = (decide (((byteAt s i).toNat : Int) < 97)) := ⟨_, rfl⟩
  obtain ⟨b2, hb2⟩ : ∃ b, b = (b1 || (decide (122 < ((byteAt s i).toNat : Int)))) := ⟨_, rfl⟩
  obtain ⟨b3, hb3⟩ : ∃ b, b = (b2 && ((decide (((byteAt s i).toNat : Int) < 48)) || (decide (57 < ((byteAt s i).toNat : Int))))) := ⟨_, rfl⟩
  refine SW_H (CS := [(4, ((!b1) = true → (!b1) = true)), (5, (b1 = false → (!b1) = true)), (8, (b2 = true → b2 = true)), (9, (b2 = true → b2 = true)), (11, ((b2 && (!(decide (((byteAt s i).toNat : Int) < 48)))) = true → (b2 && (!(decide (((byteAt s i).toNat : Int) < 48)))) = true)), (12, (b2 = true → (b2 = true) ∧ ((decide (((byteAt s i).toNat : Int) < 48)) = false → (b2 && (!(decide (((byteAt s i).toNat : Int) < 48)))) = true))), (13, (b2 = true → b2 = true)), (16, (b3 = true → b3 = true)), (17, (b3 = true → b3 = true))]) [17, 18, 21, 22, 23, 24, 25, 26, 29, 30] [0, 3, 31] [] hk0 (vk 3 16 (a := .bool (decide (((byteAt s i).toNat : Int) < 97))) (b := .bool b1) (Imp.of_eq (by rw [hb1])) <| vk 6 19 (a := .bool (b1 || (decide (122 < ((byteAt s i).toNat : Int))))) (b := .bool b2) (Imp.of_eq (by rw [hb2])) <| vk 14 27 (a := .bool (b2 && ((decide (((byteAt s i).toNat : Int) < 48)) || (decide (57 < ((byteAt s i).toNat : Int)))))) (b := .bool b3) (Imp.of_eq (by rw [hb3])) <| v0) (by refine cc _ ?_ <| cc _ ?_ <| cc _ ?_ <| cc _ ?_ <| cc _ ?_ <| cc _ ?_ <| cc _ ?_ <| cc _ ?_ <| cc _ ?_ c0 <;> first | omega | (simp; omega) | (simp; done) | (intros; simp_all; omega) | (intros; simp_all; done)) ?_
  refine SW_cond (q := b3 && (!decide (((byteAt s i).toNat : Int) = 95))) (by kernel_rfl) (fun c2 => ?_) (fun c2 => ?_)
  ·subst hb3 hb2 hb1
   try simp only [Bool.and_eq_true, Bool.or_eq_true, Bool.and_eq_false_iff, Bool.or_eq_false_iff, Bool.not_eq_true', Bool.not_eq_false', decide_eq_true_eq, decide_eq_false_iff_not] at c2
   refine SW_P [] [2] ?_
   refine SW_ret ?_
   refine RK wR [(.bool false)] ?_
   refine Same.of_eq ?_
   have : s.all (fun b => smallN b.toNat) = false := all_byte_no (i := i) (by omega) (by unfold smallN; simp only [Bool.and_eq_false_iff, Bool.or_eq_false_iff, decide_eq_false_iff_not]; omega)
   unfold archB; rw [this, Bool.and_false]; rfl
  ·subst hb3 hb2 hb1
   try simp only [Bool.and_eq_true, Bool.or_eq_true, Bool.and_eq_false_iff, Bool.or_eq_false_iff, Bool.not_eq_true', Bool.not_eq_false', decide_eq_true_eq, decide_eq_false_iff_not] at c2
   refine SW_skip ?_
   refine SW_reg ?_
   refine SO_HA 0 [] [0, 3] [] hk0 v0 (cc 1 (p := (-9223372036854775808 ≤ (i : Int) + 1 ∧ (i : Int) + 1 ≤ 9223372036854775807)) (by first | omega | (simp; omega) | (simp; done) | (intros; simp_all; omega) | (intros; simp_all; done)) <| c0) ?_
   refine ⟨by kernel_rfl, _, ?_, i + 1, ?_, ?_, (by kernel_rfl), rfl⟩
   ·omega
   ·omega
   ·intro j hj
    by_cases h : j = i
    ·subst h; unfold smallN; simp only [Bool.and_eq_true, Bool.or_eq_true, decide_eq_true_eq]; omega
    ·exact f1_2 j (by omega)
 ·refine SW_exit ?_
  obtain ⟨b4, hb4⟩ : ∃ b, b = (decide (1 ≤ (s.length : Int))) := ⟨_, rfl⟩
  refine SW_H (CS := [(5, (b4 = true → b4 = true)), (6, (b4 = true → b4 = true)), (7, (b4 = true → b4 = true))]) [36, 37, 38] [2] [] hk0 (vk 4 35 (a := .bool (decide (1 ≤ (s.length : Int)))) (b := .bool b4) (Imp.of_eq (by rw [hb4])) <| v0) (by refine cc _ ?_ <| cc _ ?_ <| cc _ ?_ c0 <;> first | omega | (simp; omega) | (simp; done) | (intros; simp_all; omega) | (intros; simp_all; done)) ?_
  refine SW_ret ?_
  refine RK wR [(.bool (b4 && (decide ((s.length : Int) ≤ 20))))] ?_
  subst hb4
  refine Same.of_eq ?_
  simp only [pack]
  congr 1
  unfold archB
  rw [all_byte_yes (by omega) f1_2, show decide ((1 : Int) ≤ (s.length : Int)) = decide (1 ≤ s.length) from decide_eq_decide.2 (by omega), show decide ((s.length : Int) ≤ 20) = decide (s.length ≤ 20) from decide_eq_decide.2 (by omega)]
  simp
set_option maxHeartbeats 400000 in
set_option maxRecDepth 100000 in
theorem refShown_any (s : List UInt8) (hl : s.length ≤ 9223372036854775807) :
  FnV Tryz.prog 143 [(.str s)] (.bool (seenB s)) := by
 refine FnV_intro [.tmp 2] Tryz.func143 rfl Tryz.ntmps143 rfl rfl (fun B F hF => ?_)
 refine SW_P [] [0] ?_
 refine SW_seq ?_
 refine SW_P [] [0, 3] ?_
 refine SW_block ?_
 refine SW_L (fun g y => ∃ (i : Nat), i ≤ s.length ∧ (∀ j, j < i → seenN (byteAt s j).toNat = true) ∧ y = ⟨[(0, (.str s)), (3, (.int .i64 ((i : Int))))], [], 0⟩ ∧ g = s.length - i) [0, 3] 0 _ (by omega) ⟨0, (by omega), (by exact fun j hj => by omega), (by kernel_rfl), rfl⟩ ?_
 rintro g1 y1 ⟨i, f1_1, f1_2, rfl, rfl⟩
 refine SW_seq ?_
 refine SW_P [] [0, 3, 7] ?_
 refine SW_if (p := (i : Int) < (s.length : Int)) (by kernel_rfl) (fun c1 => ?_) (fun c1 => ?_)
 ·refine SW_skip ?_
  refine SW_seq ?_
  refine SW_block ?_
  obtain ⟨b1, hb1⟩ : ∃ b, b = (decide (((byteAt s i).toNat : Int) < 32)) := ⟨_, rfl⟩
  refine SW_H (CS := [(2, (0 ≤ (i : Int) ∧ i < s.length)), (7, ((!b1) = true → ((!b1) = true ∧ (!b1) = true) ∧ (0 ≤ (i : Int) ∧ i < s.length))), (8, ((!b1) = true → (!b1) = true)), (9, (b1 = false → (!b1) = true))]) [15, 16, 17, 18] [0, 3, 19] [] hk0 (vk 5 14 (a := .bool (decide (((byteAt s i).toNat : Int) < 32))) (b := .bool b1) (Imp.of_eq (by rw [hb1])) <| v0) (by refine cc _ ?_ <| cc _ ?_ <| cc _ ?_ <| cc _ ?_ c0 <;> first | omega | (simp; omega) | (simp; done) | (intros; simp_all; omega) | (intros; simp_all; done)) ?_
  refine SW_cond (q := b1 || (decide (126 < ((byteAt s i).toNat : Int)))) (by kernel_rfl) (fun c2 => ?_) (fun c2 => ?_)
  ·subst hb1
   try simp only [Bool.and_eq_true, Bool.or_eq_true, Bool.and_eq_false_iff, Bool.or_eq_false_iff, Bool.not_eq_true', Bool.not_eq_false', decide_eq_true_eq, decide_eq_false_iff_not] at c2
   refine SW_P [] [2] ?_
   refine SW_ret ?_
   refine RK wR [(.bool false)] ?_
   refine Same.of_eq ?_
   have : s.all (fun b => seenN b.toNat) = false := all_byte_no (i := i) (by omega) (by unfold seenN; simp only [Bool.and_eq_false_iff, Bool.or_eq_false_iff, decide_eq_false_iff_not]; omega)
   unfold seenB; rw [this]; rfl
  ·subst hb1
   try simp only [Bool.and_eq_true, Bool.or_eq_true, Bool.and_eq_false_iff, Bool.or_eq_false_iff, Bool.not_eq_true', Bool.not_eq_false', decide_eq_true_eq, decide_eq_false_iff_not] at c2
   refine SW_skip ?_
   refine SW_reg ?_
   refine SO_HA 0 [] [0, 3] [] hk0 v0 (cc 1 (p := (-9223372036854775808 ≤ (i : Int) + 1 ∧ (i : Int) + 1 ≤ 9223372036854775807)) (by first | omega | (simp; omega) | (simp; done) | (intros; simp_all; omega) | (intros; simp_all; done)) <| c0) ?_
   refine ⟨by kernel_rfl, _, ?_, i + 1, ?_, ?_, (by kernel_rfl), rfl⟩
   ·omega
   ·omega
   ·intro j hj
    by_cases h : j = i
    ·subst h; unfold seenN; simp only [Bool.and_eq_true, Bool.or_eq_true, decide_eq_true_eq]; omega
    ·exact f1_2 j (by omega)
 ·refine SW_exit ?_
  refine SW_P [] [2] ?_
  refine SW_ret ?_
  refine RK wR [(.bool true)] ?_
  exact Same.of_eq (by unfold seenB; rw [all_byte_yes (by omega) f1_2]; rfl)
set_option maxHeartbeats 400000 in
set_option maxRecDepth 100000 in
theorem refFiles_any (l : List (List UInt8)) (hl : filesSize l ≤ 4194304) :
  FnV Tryz.prog 145 [(strs l)] (.bool (filesB l)) := by
 have hfl := files_len l
 refine FnV_intro [.tmp 2] Tryz.func145 rfl Tryz.ntmps145 rfl rfl (fun B F hF => ?_)
 refine SW_P [] [0] ?_
 refine SW_seq ?_
 refine SW_P [] [0, 7] ?_
 refine SW_if (p := 16 < (l.length : Int)) (by kernel_rfl) (fun c1 => ?_) (fun c1 => ?_)
 ·refine SW_P [] [2] ?_
  refine SW_ret ?_
  refine RK wR [(.bool false)] ?_
  exact Same.of_eq (by unfold filesB; rw [decide_eq_false (by omega)]; rfl)
 ·refine SW_skip ?_
  refine SW_seq ?_
  refine SW_P [] [0, 3] ?_
  refine SW_block ?_
  refine SW_L (fun g y => ∃ (i : Nat), i ≤ l.length ∧ (∀ j, j < i → fileB (nth l j) = true) ∧ y = ⟨[(0, (strs l)), (3, (.int .i64 ((i : Int))))], [], 0⟩ ∧ g = l.length - i) [0, 3] 0 _ (by omega) ⟨0, (by omega), (by exact fun j hj => by omega), (by kernel_rfl), rfl⟩ ?_
  rintro g1 y1 ⟨i, f1_1, f1_2, rfl, rfl⟩
  refine SW_seq ?_
  refine SW_P [] [0, 3, 11] ?_
  refine SW_if (p := (i : Int) < (l.length : Int)) (by kernel_rfl) (fun c2 => ?_) (fun c2 => ?_)
  ·refine SW_skip ?_
   refine SW_seq ?_
   refine SW_block ?_
   refine SW_H [] [0, 3, 4] [] (hk 4 en_91 (refNameV (nth l i) (by have := file_len (l := l) (i := i) (by omega); omega)) <| hk0) v0 (cc 2 (p := (0 ≤ (i : Int) ∧ i < l.length)) (by first | omega | (simp; omega) | (simp; done) | (intros; simp_all; omega) | (intros; simp_all; done)) <| c0) ?_
   have qh1 : (((!(!(nameB (nth l i)))) = true → ((!(!(nameB (nth l i)))) = true ∧ (!(!(nameB (nth l i)))) = true) ∧ (0 ≤ (i : Int) ∧ i < l.length))) ∧ (((!(!(nameB (nth l i)))) = true → (!(!(nameB (nth l i)))) = true)) ∧ (((!(!(nameB (nth l i)))) = true → ((!(!(nameB (nth l i)))) = true) ∧ (0 ≤ (0 : Int) ∧ 0 < (nth l i).length))) ∧ (((!(!(nameB (nth l i)))) = true → (!(!(nameB (nth l i)))) = true)) ∧ (((!(nameB (nth l i))) = false → (!(!(nameB (nth l i)))) = true)) := by
    have hp := fun h => nameB_pos (l := nth l i) h; simp only [Bool.not_not, Bool.not_eq_false']; exact ⟨fun hq => ⟨⟨hq, hq⟩, by omega, by omega⟩, fun hq => hq, fun hq => ⟨hq, by omega, hp hq⟩, fun hq => hq, fun hq => hq⟩
   refine SW_H [22, 23, 24, 25, 26, 27] [0, 3, 28] [] hk0 v0 (cc 5 (p := ((!(!(nameB (nth l i)))) = true → ((!(!(nameB (nth l i)))) = true ∧ (!(!(nameB (nth l i)))) = true) ∧ (0 ≤ (i : Int) ∧ i < l.length))) qh1.1 <| cc 6 (p := ((!(!(nameB (nth l i)))) = true → (!(!(nameB (nth l i)))) = true)) qh1.2.1 <| cc 7 (p := ((!(!(nameB (nth l i)))) = true → ((!(!(nameB (nth l i)))) = true) ∧ (0 ≤ (0 : Int) ∧ 0 < (nth l i).length))) qh1.2.2.1 <| cc 8 (p := ((!(!(nameB (nth l i)))) = true → (!(!(nameB (nth l i)))) = true)) qh1.2.2.2.1 <| cc 9 (p := ((!(nameB (nth l i))) = false → (!(!(nameB (nth l i)))) = true)) qh1.2.2.2.2 <| c0) ?_
   refine SW_cond (q := (!(nameB (nth l i))) || (!decide (((byteAt (nth l i) 0).toNat : Int) = 47))) (by kernel_rfl) (fun c3 => ?_) (fun c3 => ?_)
   ·try simp only [Bool.and_eq_true, Bool.or_eq_true, Bool.and_eq_false_iff, Bool.or_eq_false_iff, Bool.not_eq_true', Bool.not_eq_false', decide_eq_true_eq, decide_eq_false_iff_not] at c3
    refine SW_P [] [2] ?_
    refine SW_ret ?_
    refine RK wR [(.bool false)] ?_
    refine Same.of_eq ?_
    unfold filesB
    have : l.all fileB = false := by
     cases hq : l.all fileB with
     | false => rfl
     | true => have h1 := all_nth.1 hq i (by omega); rw [fileB_at] at h1; simp_all
    rw [this, Bool.and_false]; rfl
   ·try simp only [Bool.and_eq_true, Bool.or_eq_true, Bool.and_eq_false_iff, Bool.or_eq_false_iff, Bool.not_eq_true', Bool.not_eq_false', decide_eq_true_eq, decide_eq_false_iff_not] at c3
    refine SW_skip ?_
    refine SW_reg ?_
    refine SO_HA 0 [] [0, 3] [] hk0 v0 (cc 1 (p := (-9223372036854775808 ≤ (i : Int) + 1 ∧ (i : Int) + 1 ≤ 9223372036854775807)) (by first | omega | (simp; omega) | (simp; done) | (intros; simp_all; omega) | (intros; simp_all; done)) <| c0) ?_
    refine ⟨by kernel_rfl, _, ?_, i + 1, ?_, ?_, (by kernel_rfl), rfl⟩
    ·omega
    ·omega
    ·intro j hj
     by_cases h : j = i
     ·subst h; rw [fileB_at]; simp_all
     ·exact f1_2 j (by omega)
  ·refine SW_exit ?_
   refine SW_P [] [2] ?_
   refine SW_ret ?_
   refine RK wR [(.bool true)] ?_
   exact Same.of_eq (by unfold filesB; rw [all_nth.2 (fun j hj => f1_2 j (by omega)), decide_eq_true (by omega)]; rfl)
set_option maxHeartbeats 1000000 in
set_option maxRecDepth 100000 in
theorem refCheck_ok (p : PkgT) (hs : p.size ≤ 4194304) :
  FnV Tryz.prog 92 [(pkgX p)] (.int .i64 (pkgE p)) := by
 have hsz := p.sizes
 refine FnV_intro [.tmp 2] Tryz.func92 rfl Tryz.ntmps92 rfl rfl (fun B F hF => ?_)
 refine SW_H [] [1] [(1, 1)] hk0 v0 c0 ?_
 refine SW_H [] [1, 3] [] (hk 2 en_91 (refNameV p.name (by omega)) <| hk0) v0 c0 ?_
 refine SW_seq ?_
 refine SW_P [] [1, 14] ?_
 refine SW_cond (q := !(nameB p.name)) (by kernel_rfl) (fun c1 => ?_) (fun c1 => ?_)
 ·try simp only [Bool.and_eq_true, Bool.or_eq_true, Bool.and_eq_false_iff, Bool.or_eq_false_iff, Bool.not_eq_true', Bool.not_eq_false', decide_eq_true_eq, decide_eq_false_iff_not] at c1
  refine SW_P [] [2] ?_
  refine SW_ret ?_
  refine RK wR [(.int .i64 60)] ?_
  refine Same.of_eq ?_
  simp only [pack]
  congr 1
  rw [← pkgR_eq]
  unfold pkgR
  simp_all
 ·try simp only [Bool.and_eq_true, Bool.or_eq_true, Bool.and_eq_false_iff, Bool.or_eq_false_iff, Bool.not_eq_true', Bool.not_eq_false', decide_eq_true_eq, decide_eq_false_iff_not] at c1
  refine SW_skip ?_
  refine SW_H [] [1, 5] [(8, 4)] (hk 2 en_141 (ref03ParseV p.evr (by omega)) <| hk0) v0 c0 ?_
  refine SW_seq ?_
  refine SW_P [] [1, 22] ?_
  refine SW_ifn (p := (evrE p.evr) = 0) (by kernel_rfl) (fun c2 => ?_) (fun c2 => ?_)
  ·refine SW_P [] [2] ?_
   refine SW_ret ?_
   refine RK wR [(.int .i64 61)] ?_
   refine Same.of_eq ?_
   simp only [pack]
   congr 1
   rw [← pkgR_eq]
   unfold pkgR
   simp_all
  ·refine SW_skip ?_
   refine SW_H [] [1, 6] [] (hk 2 en_142 (refArch_any p.arch (by omega)) <| hk0) v0 c0 ?_
   refine SW_seq ?_
   refine SW_P [] [1, 27] ?_
   refine SW_cond (q := !(archB p.arch)) (by kernel_rfl) (fun c3 => ?_) (fun c3 => ?_)
   ·try simp only [Bool.and_eq_true, Bool.or_eq_true, Bool.and_eq_false_iff, Bool.or_eq_false_iff, Bool.not_eq_true', Bool.not_eq_false', decide_eq_true_eq, decide_eq_false_iff_not] at c3
    refine SW_P [] [2] ?_
    refine SW_ret ?_
    refine RK wR [(.int .i64 62)] ?_
    refine Same.of_eq ?_
    simp only [pack]
    congr 1
    rw [← pkgR_eq]
    unfold pkgR
    simp_all
   ·try simp only [Bool.and_eq_true, Bool.or_eq_true, Bool.and_eq_false_iff, Bool.or_eq_false_iff, Bool.not_eq_true', Bool.not_eq_false', decide_eq_true_eq, decide_eq_false_iff_not] at c3
    refine SW_skip ?_
    refine SW_H [] [1, 7] [] (hk 2 en_143 (refShown_any p.vendor (by omega)) <| hk0) v0 c0 ?_
    refine SW_seq ?_
    obtain ⟨b1, hb1⟩ : ∃ b, b = (!(seenB p.vendor)) := ⟨_, rfl⟩
    refine SW_H (CS := [(4, ((!b1) = true → (!b1) = true)), (5, ((!b1) = true → (!b1) = true)), (6, ((!b1) = true → (!b1) = true)), (7, (b1 = false → (!b1) = true))]) [34, 35, 36, 37] [1, 38] [] hk0 (vk 3 33 (a := .bool (!(seenB p.vendor))) (b := .bool b1) (Imp.of_eq (by rw [hb1])) <| v0) (by refine cc _ ?_ <| cc _ ?_ <| cc _ ?_ <| cc _ ?_ c0 <;> first | omega | (simp; omega) | (simp; done) | (intros; simp_all; omega) | (intros; simp_all; done)) ?_
    refine SW_cond (q := b1 || (decide (60 < (p.vendor.length : Int)))) (by kernel_rfl) (fun c4 => ?_) (fun c4 => ?_)
    ·subst hb1
     try simp only [Bool.and_eq_true, Bool.or_eq_true, Bool.and_eq_false_iff, Bool.or_eq_false_iff, Bool.not_eq_true', Bool.not_eq_false', decide_eq_true_eq, decide_eq_false_iff_not] at c4
     refine SW_P [] [2] ?_
     refine SW_ret ?_
     refine RK wR [(.int .i64 63)] ?_
     refine Same.of_eq ?_
     simp only [pack]
     congr 1
     rw [← pkgR_eq]
     unfold pkgR
     simp_all
    ·subst hb1
     try simp only [Bool.and_eq_true, Bool.or_eq_true, Bool.and_eq_false_iff, Bool.or_eq_false_iff, Bool.not_eq_true', Bool.not_eq_false', decide_eq_true_eq, decide_eq_false_iff_not] at c4
     refine SW_skip ?_
     refine SW_H [] [1, 8] [] (hk 1 en_144 (refDeps_ok p (by omega)) <| hk0) v0 c0 ?_
     refine SW_seq ?_
     refine SW_P [] [1, 42] ?_
     refine SW_cond (q := !(depsB p)) (by kernel_rfl) (fun c5 => ?_) (fun c5 => ?_)
     ·try simp only [Bool.and_eq_true, Bool.or_eq_true, Bool.and_eq_false_iff, Bool.or_eq_false_iff, Bool.not_eq_true', Bool.not_eq_false', decide_eq_true_eq, decide_eq_false_iff_not] at c5
      refine SW_P [] [2] ?_
      refine SW_ret ?_
      refine RK wR [(.int .i64 64)] ?_
      refine Same.of_eq ?_
      simp only [pack]
      congr 1
      rw [← pkgR_eq]
      unfold pkgR
      simp_all
     ·try simp only [Bool.and_eq_true, Bool.or_eq_true, Bool.and_eq_false_iff, Bool.or_eq_false_iff, Bool.not_eq_true', Bool.not_eq_false', decide_eq_true_eq, decide_eq_false_iff_not] at c5
      refine SW_skip ?_
      refine SW_H [] [9] [] (hk 2 en_145 (refFiles_any p.files (by omega)) <| hk0) v0 c0 ?_
      refine SW_seq ?_
      refine SW_P [] [47] ?_
      refine SW_cond (q := !(filesB p.files)) (by kernel_rfl) (fun c6 => ?_) (fun c6 => ?_)
      ·try simp only [Bool.and_eq_true, Bool.or_eq_true, Bool.and_eq_false_iff, Bool.or_eq_false_iff, Bool.not_eq_true', Bool.not_eq_false', decide_eq_true_eq, decide_eq_false_iff_not] at c6
       refine SW_P [] [2] ?_
       refine SW_ret ?_
       refine RK wR [(.int .i64 65)] ?_
       refine Same.of_eq ?_
       simp only [pack]
       congr 1
       rw [← pkgR_eq]
       unfold pkgR
       simp_all
      ·try simp only [Bool.and_eq_true, Bool.or_eq_true, Bool.and_eq_false_iff, Bool.or_eq_false_iff, Bool.not_eq_true', Bool.not_eq_false', decide_eq_true_eq, decide_eq_false_iff_not] at c6
       refine SW_skip ?_
       refine SW_P [] [2] ?_
       refine SW_ret ?_
       refine RK wR [(.int .i64 0)] ?_
       refine Same.of_eq ?_
       simp only [pack]
       congr 1
       rw [← pkgR_eq]
       unfold pkgR
       simp_all
end Sv
end Go.Proofs.YtlfjokcbkopfeaaGreatDoor
end
section
namespace Go.Proofs.YtlfjokcbkopfeaaGreatDoor
open Go Go.RowKit
namespace Sv
attribute [local irreducible] SW SO holds
theorem en_11 : Enters Tryz.prog 11 := enters_of Tryz.func11 (by kernel_rfl) rfl
theorem en_48 : Enters Tryz.prog 48 := enters_of Tryz.func48 (by kernel_rfl) rfl
theorem en_49 : Enters Tryz.prog 49 := enters_of Tryz.func49 (by kernel_rfl) rfl
noncomputable def repoNX (r : RepoT) : AV := .agg [.str r.name, .int .i64 r.prio, .bool r.inst, .nils]
noncomputable def keptX (k : PkgT × Int) : AV := .agg [.str k.1.name, .str k.1.evr, .str k.1.arch, .str k.1.vendor, deps k.1.provides, deps k.1.requires, deps k.1.pre, deps k.1.conflicts, deps k.1.obsoletes, deps k.1.recommends, deps k.1.supplements, strs k.1.files, .int .i64 k.2]
structure PoolT where
 kind : Int
 repos : List RepoT
 all : List (PkgT × Int)
 deriving Inhabited
def firstE (l : List PkgT) : Int := match l.find? (fun p => decide (pkgE p ≠ 0)) with
 | some p => pkgE p
 | none => 0
def addE (st : PoolT) (r : RepoT) : Int :=
 if nameB r.name = false ∨ st.repos.any (fun o => decide (o.name = r.name)) = true then 66
 else if r.inst = true ∧ st.repos.any (fun o => o.inst) = true then 67
 else if 8 ≤ st.repos.length ∨ 200 < st.all.length + r.pkgs.length then 68
 else firstE r.pkgs
def keptsTo (st : PoolT) (r : RepoT) (i : Nat) : List (PkgT × Int) := st.all ++ (r.pkgs.take i).map fun p => (p, (st.repos.length : Int))
def addS (st : PoolT) (r : RepoT) : PoolT := if addE st r = 0 then ⟨st.kind, st.repos ++ [r], keptsTo st r r.pkgs.length⟩ else st
def namedN (l : List (PkgT × Int)) (s : List UInt8) : List Nat := (List.range l.length).filter fun i => decide ((nth l i).1.name = s)
noncomputable def namedG (l : List (PkgT × Int)) (s : List UInt8) : List AV := (namedN l s).map fun (i : Nat) => AV.int .i64 (i : Int)
theorem addS_no {st : PoolT} {r : RepoT} {e : Int} (h : addE st r = e) (he : e ≠ 0) : addS st r = st := by unfold addS; rw [if_neg (by rw [h]; exact he)]
theorem firstE_no {l : List PkgT} (h : ∀ j, j < l.length → pkgE (nth l j) = 0) : firstE l = 0 := by
 unfold firstE
 rw [List.find?_eq_none.2]
 intro x hx
 obtain ⟨j, hj, rfl⟩ := List.getElem_of_mem hx
 have := h j hj
 simpa [nth, hj] using this
theorem firstE_at : ∀ {l : List PkgT} {i : Nat}, i < l.length → (∀ j, j < i → pkgE (nth l j) = 0) → pkgE (nth l i) ≠ 0 → firstE l = pkgE (nth l i)
 | [], _, h, _, _ => by simp at h
 | x :: r, 0, _, _, h => by
  have h : pkgE x ≠ 0 := h
  unfold firstE; rw [List.find?_cons_of_pos (by simpa using h)]; rfl
 | x :: r, i + 1, hi, h, hp => by
  have h0 : pkgE x = 0 := h 0 (by omega)
  have := firstE_at (l := r) (i := i) (by simpa using hi) (fun j hj => h (j + 1) (by omega)) hp
  unfold firstE at this ⊢
  rw [List.find?_cons_of_neg (by simp [h0])]; exact this
theorem keptsTo_next {st : PoolT} {r : RepoT} {i : Nat} (h : i < r.pkgs.length) : keptsTo st r (i + 1) = keptsTo st r i ++ [(nth r.pkgs i, (st.repos.length : Int))] := by
 unfold keptsTo
 rw [List.take_add_one, List.getElem?_eq_getElem h, List.map_append, List.append_assoc]
 simp [nth, h]
theorem keptsTo_len {st : PoolT} {r : RepoT} {i : Nat} : (keptsTo st r i).length ≤ st.all.length + i := by unfold keptsTo; simp; omega
theorem namedG_put (l : List (PkgT × Int)) (k : PkgT × Int) : updG (namedG l) k.1.name (namedG l k.1.name ++ [.int .i64 (l.length : Int)]) = namedG (l ++ [k]) := by
 funext s
 have e : namedN (l ++ [k]) s = namedN l s ++ (if k.1.name = s then [l.length] else []) := by
  unfold namedN
  rw [List.length_append, List.length_singleton, List.range_succ, List.filter_append]
  congr 1
  ·refine List.filter_congr fun i hi => ?_
   have : i < l.length := by simpa using hi
   have : nth (l ++ [k]) i = nth l i := by simp [nth, List.getElem?_append_left this]
   rw [this]
  ·have : nth (l ++ [k]) l.length = k := by simp [nth]
   by_cases h : k.1.name = s <;> simp [this, h]
 unfold updG namedG
 rw [e]
 by_cases h : s = k.1.name
 ·subst h; rw [if_pos rfl, if_pos rfl, List.map_append]; rfl
 ·rw [if_neg h, if_neg (fun q => h q.symm), List.append_nil]
theorem namedG_len (l : List (PkgT × Int)) (s : List UInt8) : (namedG l s).length ≤ l.length := by
 unfold namedG namedN
 rw [List.length_map]
 exact Nat.le_trans (List.length_filter_le _ _) (by simp)
set_option maxHeartbeats 400000 in
set_option maxRecDepth 100000 in
theorem repoN_idx (l : List RepoT) (a : AV) (p : RepoT → Bool) (hl : l.length ≤ 4611686018427387904) (ha : ∀ i, i < l.length → FunV Tryz.prog a [(.agg [(.str ((nth l i).name)), (.int .i64 ((nth l i).prio)), (.bool ((nth l i).inst)), .nils])] (.bool (p (nth l i)))) :
  FnV Tryz.prog 96 [(rowOf 4 repoNX l), (.clo a)] (.int .i64 (idxF p l)) := by
 refine FnV_intro [.tmp 4] Tryz.func96 rfl Tryz.ntmps96 rfl rfl (fun B F hF => ?_)
 refine SW_P [] [0, 1] ?_
 refine SW_seq ?_
 refine SW_P [] [0, 1, 7, 8] ?_
 refine SW_block ?_
 refine SW_L (fun g y => ∃ (i : Nat), i ≤ l.length ∧ (∀ j, j < i → p (nth l j) = false) ∧ y = ⟨[(0, (rowOf 4 repoNX l)), (1, (.clo a)), (7, (.int .i64 ((l.length : Int)))), (8, (.int .i64 ((i : Int))))], [], 0⟩ ∧ g = l.length - i) [0, 1, 7, 8] 0 _ (by omega) ⟨0, (by omega), (by exact fun j hj => by omega), (by kernel_rfl), rfl⟩ ?_
 rintro g1 y1 ⟨i, f1_1, f1_2, rfl, rfl⟩
 refine SW_P [] [0, 1, 7, 8, 9] ?_
 refine SW_seq ?_
 refine SW_if (p := (i : Int) < (l.length : Int)) (by kernel_rfl) (fun c1 => ?_) (fun c1 => ?_)
 ·refine SW_skip ?_
  refine SW_seq ?_
  refine SW_block ?_
  refine SW_P [] [0, 1, 5, 7, 8] ?_
  refine SW_seq ?_
  refine SW_reg ?_
  refine SO_H 5 0 [] [0, 1, 5, 7, 8, 11, 15] [] hk0 v0 (cc 3 (p := (0 ≤ (i : Int) ∧ i < l.length)) (by first | omega | (simp; omega) | (simp; done) | (intros; simp_all; omega) | (intros; simp_all; done)) <| c0) ?_
  refine SO_callA (s' := [(0, (rowOf 4 repoNX l)), (1, (.clo a)), (5, (.int .i64 ((i : Int)))), (7, (.int .i64 ((l.length : Int)))), (8, (.int .i64 ((i : Int)))), (11, (.clo a)), (15, (.agg [(.str ((nth l i).name)), (.int .i64 ((nth l i).prio)), (.bool ((nth l i).inst)), .nils])), (16, (.bool (p (nth l i))))]) (a := (.clo a)) (al := [(.agg [(.str ((nth l i).name)), (.int .i64 ((nth l i).prio)), (.bool ((nth l i).inst)), .nils])]) (r := (.bool (p (nth l i)))) (by kernel_rfl) (by kernel_rfl) (by kernel_rfl) (by kernel_rfl) (by kernel_rfl) ((ha i (by omega)).clo) (by kernel_rfl) ?_
  refine SO_nil ?_
  refine SW_cond (q := p (nth l i)) (by kernel_rfl) (fun c2 => ?_) (fun c2 => ?_)
  ·try simp only [Bool.and_eq_true, Bool.or_eq_true, Bool.and_eq_false_iff, Bool.or_eq_false_iff, Bool.not_eq_true', Bool.not_eq_false', decide_eq_true_eq, decide_eq_false_iff_not] at c2
   refine SW_P [] [4] ?_
   refine SW_ret ?_
   refine RK wR [(.int .i64 ((i : Int)))] ?_
   exact Same.of_eq (by rw [idxF_at (by omega) f1_2 (by simp_all)]; rfl)
  ·try simp only [Bool.and_eq_true, Bool.or_eq_true, Bool.and_eq_false_iff, Bool.or_eq_false_iff, Bool.not_eq_true', Bool.not_eq_false', decide_eq_true_eq, decide_eq_false_iff_not] at c2
   refine SW_skip ?_
   refine SW_reg ?_
   refine SO_HA 0 [] [0, 1, 7, 8] [] hk0 v0 (cc 0 (p := (-9223372036854775808 ≤ (i : Int) + 1 ∧ (i : Int) + 1 ≤ 9223372036854775807)) (by first | omega | (simp; omega) | (simp; done) | (intros; simp_all; omega) | (intros; simp_all; done)) <| c0) ?_
   refine ⟨by kernel_rfl, _, ?_, i + 1, ?_, ?_, (by kernel_rfl), rfl⟩
   ·omega
   ·omega
   ·intro j hj
    by_cases h : j = i
    ·subst h; simp_all
    ·exact f1_2 j (by omega)
 ·refine SW_exit ?_
  refine SW_P [] [4] ?_
  refine SW_ret ?_
  refine RK wR [(.int .i64 (-1))] ?_
  exact Same.of_eq (by rw [idxF_no (fun j hj => f1_2 j (by omega))]; rfl)
set_option maxHeartbeats 400000 in
set_option maxRecDepth 100000 in
theorem repoN_has (l : List RepoT) (a : AV) (p : RepoT → Bool) (hl : l.length ≤ 4611686018427387904) (ha : ∀ i, i < l.length → FunV Tryz.prog a [(.agg [(.str ((nth l i).name)), (.int .i64 ((nth l i).prio)), (.bool ((nth l i).inst)), .nils])] (.bool (p (nth l i)))) :
  FnV Tryz.prog 47 [(rowOf 4 repoNX l), (.clo a)] (.bool (l.any p)) := by
 refine FnV_intro [.tmp 4] Tryz.func47 rfl Tryz.ntmps47 rfl rfl (fun B F hF => ?_)
 refine SW_P [] [0, 1] ?_
 refine SW_H [] [4] [] (hk 2 en_96 (repoN_idx l a p hl ha) <| hk0) v0 c0 ?_
 refine SW_ret ?_
 refine RK wR [(.bool (decide (0 ≤ (idxF p l))))] ?_
 exact Same.of_eq (by simp only [pack]; rw [idxF_any])
set_option maxHeartbeats 400000 in
set_option maxRecDepth 100000 in
theorem sameName_any (o r : RepoT) :
  FnV Tryz.prog 48 [(.agg [(.str o.name), (.int .i64 o.prio), (.bool o.inst), .nils]), (.fp (.agg [(.str r.name), (.int .i64 r.prio), (.bool r.inst), (rowOf 12 pkgX r.pkgs)]))] (.bool (decide (o.name = r.name))) := by
 refine FnV_intro [.tmp 3] Tryz.func48 rfl Tryz.ntmps48 rfl rfl (fun B F hF => ?_)
 refine SW_H [] [1, 2] [(1, 2)] hk0 v0 c0 ?_
 refine SW_P [] [3] ?_
 refine SW_ret ?_
 refine RK wR [(.bool (decide (o.name = r.name)))] ?_
 exact Same.of_eq (by first | rfl | (simp only [pack]; simp_all))
set_option maxHeartbeats 400000 in
set_option maxRecDepth 100000 in
theorem instd_any (o : RepoT) :
  FnV Tryz.prog 49 [(.agg [(.str o.name), (.int .i64 o.prio), (.bool o.inst), .nils])] (.bool o.inst) := by
 refine FnV_intro [.tmp 2] Tryz.func49 rfl Tryz.ntmps49 rfl rfl (fun B F hF => ?_)
 refine SW_H [] [1] [(1, 1)] hk0 v0 c0 ?_
 refine SW_P [] [2] ?_
 refine SW_ret ?_
 refine RK wR [(.bool o.inst)] ?_
 exact Same.of_eq (by first | rfl | (simp only [pack]; simp_all))
set_option maxHeartbeats 1000000 in
set_option maxRecDepth 100000 in
theorem Add_ok (st : PoolT) (r : RepoT) (hr : st.repos.length ≤ 8) (ha : st.all.length ≤ 200) (hn : r.name.length ≤ 4194304) (hpl : r.pkgs.length ≤ 4194304) (hp : ∀ i, i < r.pkgs.length → (nth r.pkgs i).size ≤ 4194304) :
  CallS Tryz.prog 11 [(.ptr 0 0), (.agg [(.str r.name), (.int .i64 r.prio), (.bool r.inst), (rowOf 12 pkgX r.pkgs)])] [(0, (.row [(.int .i64 st.kind), (.own 1), (.own 2), (.map 3)] 92)), (1, (.grow (st.repos.map repoNX) 41 4)), (2, (.grow (st.all.map keptX) 97 13)), (3, (.mm (namedG st.all) none 3 1))] 4 (.int .i64 (addE st r)) [(0, (.row [(.int .i64 ((addS st r).kind)), (.own 1), (.own 2), (.map 3)] 92)), (1, (.grow ((addS st r).repos.map repoNX) 41 4)), (2, (.grow ((addS st r).all.map keptX) 97 13)), (3, (.mm (namedG (addS st r).all) none 3 1))] := by
 have hml : (st.repos.map repoNX).length = st.repos.length := List.length_map _
 have hma : (st.all.map keptX).length = st.all.length := List.length_map _
 refine CallS_intro [.tmp 4] Tryz.func11 rfl Tryz.ntmps11 rfl rfl (by kernel_rfl) (by kernel_rfl) (by kernel_rfl) (fun B F hF => ?_)
 refine SW_P [] [0, 3] ?_
 refine SW_seq ?_
 refine SW_block ?_
 refine SW_P [] [0, 3, 10] ?_
 refine SW_false (by kernel_rfl) ?_
 refine SW_seq ?_
 refine SW_reg ?_
 obtain ⟨b2, hb2⟩ : ∃ b, b = (!(nameB r.name)) := ⟨_, rfl⟩
 refine SO_H (CS := [(6, ((!b2) = true → (!b2) = true)), (7, ((!b2) = true → (!b2) = true)), (8, ((!b2) = true → (!b2) = true))]) 10 0 [19, 20, 21, 22, 23] [0, 3, 18, 22, 23] [] (hk 2 en_46 (NameV r.name (by omega)) <| hk0) (vk 5 18 (a := .bool (!(nameB r.name))) (b := .bool b2) (Imp.of_eq (by rw [hb2])) <| v0) (by refine cc _ ?_ <| cc _ ?_ <| cc _ ?_ c0 <;> first | omega | (simp; omega) | (simp; done) | (intros; simp_all; omega) | (intros; simp_all; done)) ?_
 refine SO_callBg (s' := [(0, (.ptr 0 0)), (3, (.ptr 4 0)), (18, (.bool b2)), (22, (.cond (!b2) (.own 1))), (23, (.cond (!b2) (.fn 48 [] [(.ptr 4 0)]))), (24, (.cond (!b2) (.bool (st.repos.any (fun o => decide (o.name = r.name))))))]) (q := !b2) (al := [(.own 1), (.fn 48 [] [(.ptr 4 0)])]) (al' := [(.row 4 (st.repos.map repoNX).length (fun ix => (st.repos.map repoNX).getD ix junk)), (.fn 48 [] [(.fp (.agg [(.str r.name), (.int .i64 r.prio), (.bool r.inst), (rowOf 12 pkgX r.pkgs)]))])]) (h' := [(0, (.row [(.int .i64 st.kind), (.own 1), (.own 2), (.map 3)] 92)), (2, (.grow (st.all.map keptX) 97 13)), (3, (.mm (namedG st.all) none 3 1))]) (r := (.bool (st.repos.any (fun o => decide (o.name = r.name))))) (by kernel_rfl) (by exact en_47) (by kernel_rfl) (ndOk (some ((!b2) = true ∧ (!b2) = true)) (by kernel_rfl) fun cg => hold (by first | omega | (simp; omega) | (simp; done) | (intros; simp_all; omega) | (intros; simp_all; done))) (by kernel_rfl) (fun cg => (repoN_has st.repos (.fn 48 [] [.fp (.agg [(.str r.name), (.int .i64 r.prio), (.bool r.inst), (rowOf 12 pkgX r.pkgs)])]) (fun o => decide (o.name = r.name)) (by omega) (fun i hi => FunV.of (by exact en_48) (sameName_any (nth st.repos i) r))).of_args (ImpL.cons (Imp.list (f := repoNX) (List.length_map _)) (ImpL.cons (Imp.clo (by kernel_rfl)) ImpL.nil))) rfl (by kernel_rfl) ?_
 obtain ⟨b3, hb3⟩ : ∃ b, b = (b2 || (st.repos.any (fun o => decide (o.name = r.name)))) := ⟨_, rfl⟩
 refine SO_HA 11 [] [0, 3, 13] [] hk0 (vk 12 25 (a := .bool (b2 || (st.repos.any (fun o => decide (o.name = r.name))))) (b := .bool b3) (Imp.of_eq (by rw [hb3])) <| v0) (cc 11 (p := (b2 = false → (!b2) = true)) (by first | omega | (simp; omega) | (simp; done) | (intros; simp_all; omega) | (intros; simp_all; done)) <| c0) ?_
 refine SW_cond (q := b3) (by kernel_rfl) (fun c1 => ?_) (fun c1 => ?_)
 ·subst hb3 hb2
  try simp only [Bool.and_eq_true, Bool.or_eq_true, Bool.and_eq_false_iff, Bool.or_eq_false_iff, Bool.not_eq_true', Bool.not_eq_false', decide_eq_true_eq, decide_eq_false_iff_not] at c1
  refine SW_P [] [4] ?_
  refine SW_ret ?_
  refine retS_mk (.inl rfl) (al := [(.int .i64 66)]) (by kernel_rfl) ?_ ((by kernel_rfl : cutH 4 _ = some [(0, (.row [(.int .i64 st.kind), (.own 1), (.own 2), (.map 3)] 92)), (1, (.grow (st.repos.map repoNX) 41 4)), (2, (.grow (st.all.map keptX) 97 13)), (3, (.mm (namedG st.all) none 3 1))]).trans ?_)
  all_goals have hE : addE st r = 66 := by unfold addE; rw [if_pos c1]
  ·rw [hE]; rfl
  ·rw [addS_no hE (by decide)]
 ·subst hb3 hb2
  try simp only [Bool.and_eq_true, Bool.or_eq_true, Bool.and_eq_false_iff, Bool.or_eq_false_iff, Bool.not_eq_true', Bool.not_eq_false', decide_eq_true_eq, decide_eq_false_iff_not] at c1
  refine SW_seq ?_
  refine SW_reg ?_
  refine SO_H (CS := [(4, (r.inst = true → r.inst = true)), (5, (r.inst = true → r.inst = true)), (6, (r.inst = true → r.inst = true))]) 7 0 [30, 31, 32, 33] [0, 3, 29, 33] [] hk0 v0 (by refine cc _ ?_ <| cc _ ?_ <| cc _ ?_ c0 <;> first | omega | (simp; omega) | (simp; done) | (intros; simp_all; omega) | (intros; simp_all; done)) ?_
  refine SO_callBg (s' := [(0, (.ptr 0 0)), (3, (.ptr 4 0)), (29, (.bool r.inst)), (33, (.cond r.inst (.own 1))), (34, (.cond r.inst (.bool (st.repos.any (fun o => o.inst)))))]) (q := r.inst) (al := [(.own 1), (.fn 49 [] [])]) (al' := [(.row 4 (st.repos.map repoNX).length (fun ix => (st.repos.map repoNX).getD ix junk)), (.fn 49 [] [])]) (h' := [(0, (.row [(.int .i64 st.kind), (.own 1), (.own 2), (.map 3)] 92)), (2, (.grow (st.all.map keptX) 97 13)), (3, (.mm (namedG st.all) none 3 1)), (4, (.row [(.str r.name), (.int .i64 r.prio), (.bool r.inst), (rowOf 12 pkgX r.pkgs)] 41))]) (r := (.bool (st.repos.any (fun o => o.inst)))) (by kernel_rfl) (by exact en_47) (by kernel_rfl) (ndOk (some (r.inst = true)) (by kernel_rfl) fun cg => hold (by first | omega | (simp; omega) | (simp; done) | (intros; simp_all; omega) | (intros; simp_all; done))) (by kernel_rfl) (fun cg => (repoN_has st.repos (.fn 49 [] []) (fun o => o.inst) (by omega) (fun i hi => FunV.of (by exact en_49) (instd_any (nth st.repos i)))).of_args (ImpL.cons (Imp.list (f := repoNX) (List.length_map _)) (ImpL.cons (Imp.clo (by kernel_rfl)) ImpL.nil))) rfl (by kernel_rfl) ?_
  refine SO_HA 8 [] [0, 3, 26] [] hk0 v0 (cc 8 (p := (r.inst = true → r.inst = true)) (by first | omega | (simp; omega) | (simp; done) | (intros; simp_all; omega) | (intros; simp_all; done)) <| c0) ?_
  refine SW_cond (q := r.inst && (st.repos.any (fun o => o.inst))) (by kernel_rfl) (fun c2 => ?_) (fun c2 => ?_)
  ·try simp only [Bool.and_eq_true, Bool.or_eq_true, Bool.and_eq_false_iff, Bool.or_eq_false_iff, Bool.not_eq_true', Bool.not_eq_false', decide_eq_true_eq, decide_eq_false_iff_not] at c2
   refine SW_P [] [4] ?_
   refine SW_ret ?_
   refine retS_mk (.inl rfl) (al := [(.int .i64 67)]) (by kernel_rfl) ?_ ((by kernel_rfl : cutH 4 _ = some [(0, (.row [(.int .i64 st.kind), (.own 1), (.own 2), (.map 3)] 92)), (1, (.grow (st.repos.map repoNX) 41 4)), (2, (.grow (st.all.map keptX) 97 13)), (3, (.mm (namedG st.all) none 3 1))]).trans ?_)
   all_goals have hE : addE st r = 67 := by unfold addE; rw [if_neg (by simp only [not_or]; simp_all), if_pos (by simp_all)]
   ·rw [hE]; rfl
   ·rw [addS_no hE (by decide)]
  ·try simp only [Bool.and_eq_true, Bool.or_eq_true, Bool.and_eq_false_iff, Bool.or_eq_false_iff, Bool.not_eq_true', Bool.not_eq_false', decide_eq_true_eq, decide_eq_false_iff_not] at c2
   refine SW_C (fun y => y = ⟨[(0, (.ptr 0 0)), (3, (.ptr 4 0)), (36, (.bool (decide ((8 : Int) ≤ ((st.repos.map repoNX).length : Int)) || decide ((200 : Int) < ((st.all.map keptX).length : Int) + (r.pkgs.length : Int)))))], [(0, (.row [(.int .i64 st.kind), (.own 1), (.own 2), (.map 3)] 92)), (1, (.grow (st.repos.map repoNX) 41 4)), (2, (.grow (st.all.map keptX) 97 13)), (3, (.mm (namedG st.all) none 3 1)), (4, (.row [(.str r.name), (.int .i64 r.prio), (.bool r.inst), (rowOf 12 pkgX r.pkgs)] 41))], 5⟩) [0, 3, 36] 5 (by omega) ?_ ?_
   ·refine SW_DA (CS := [(8, ((!(decide (8 ≤ ((st.repos.map repoNX).length : Int)))) = true → (!(decide (8 ≤ ((st.repos.map repoNX).length : Int)))) = true)), (9, ((!(decide (8 ≤ ((st.repos.map repoNX).length : Int)))) = true → (!(decide (8 ≤ ((st.repos.map repoNX).length : Int)))) = true)), (10, ((!(decide (8 ≤ ((st.repos.map repoNX).length : Int)))) = true → (!(decide (8 ≤ ((st.repos.map repoNX).length : Int)))) = true)), (11, ((!(decide (8 ≤ ((st.repos.map repoNX).length : Int)))) = true → (!(decide (8 ≤ ((st.repos.map repoNX).length : Int)))) = true)), (13, ((!(decide (8 ≤ ((st.repos.map repoNX).length : Int)))) = true → (!(decide (8 ≤ ((st.repos.map repoNX).length : Int)))) = true)), (14, ((!(decide (8 ≤ ((st.repos.map repoNX).length : Int)))) = true → (!(decide (8 ≤ ((st.repos.map repoNX).length : Int)))) = true)), (15, ((!(decide (8 ≤ ((st.repos.map repoNX).length : Int)))) = true → ((!(decide (8 ≤ ((st.repos.map repoNX).length : Int)))) = true ∧ (!(decide (8 ≤ ((st.repos.map repoNX).length : Int)))) = true) ∧ (-9223372036854775808 ≤ ((st.all.map keptX).length : Int) + (r.pkgs.length : Int) ∧ ((st.all.map keptX).length : Int) + (r.pkgs.length : Int) ≤ 9223372036854775807))), (16, ((!(decide (8 ≤ ((st.repos.map repoNX).length : Int)))) = true → (!(decide (8 ≤ ((st.repos.map repoNX).length : Int)))) = true)), (17, ((decide (8 ≤ ((st.repos.map repoNX).length : Int))) = false → (!(decide (8 ≤ ((st.repos.map repoNX).length : Int)))) = true))]) [44, 45, 46, 47, 48, 49, 50, 51, 52, 53] [0, 3, 36] [] hk0 v0 (by refine cc _ ?_ <| cc _ ?_ <| cc _ ?_ <| cc _ ?_ <| cc _ ?_ <| cc _ ?_ <| cc _ ?_ <| cc _ ?_ <| cc _ ?_ c0 <;> first | omega | (simp; omega) | (simp; done) | (intros; simp_all; omega) | (intros; simp_all; done)) ?_
    refine ⟨by kernel_rfl, (by kernel_rfl)⟩
   ·rintro y1 rfl
    refine SW_cond (q := decide ((8 : Int) ≤ ((st.repos.map repoNX).length : Int)) || decide ((200 : Int) < ((st.all.map keptX).length : Int) + (r.pkgs.length : Int))) (by kernel_rfl) (fun c3 => ?_) (fun c3 => ?_)
    ·try simp only [Bool.and_eq_true, Bool.or_eq_true, Bool.and_eq_false_iff, Bool.or_eq_false_iff, Bool.not_eq_true', Bool.not_eq_false', decide_eq_true_eq, decide_eq_false_iff_not] at c3
     refine SW_P [] [4] ?_
     refine SW_ret ?_
     refine retS_mk (.inl rfl) (al := [(.int .i64 68)]) (by kernel_rfl) ?_ ((by kernel_rfl : cutH 4 _ = some [(0, (.row [(.int .i64 st.kind), (.own 1), (.own 2), (.map 3)] 92)), (1, (.grow (st.repos.map repoNX) 41 4)), (2, (.grow (st.all.map keptX) 97 13)), (3, (.mm (namedG st.all) none 3 1))]).trans ?_)
     all_goals have hE : addE st r = 68 := by unfold addE; rw [if_neg (by simp only [not_or]; simp_all), if_neg (by rintro ⟨h1, h2⟩; rw [h1, h2] at c2; simp at c2), if_pos (by omega)]
     ·rw [hE]; rfl
     ·rw [addS_no hE (by decide)]
    ·try simp only [Bool.and_eq_true, Bool.or_eq_true, Bool.and_eq_false_iff, Bool.or_eq_false_iff, Bool.not_eq_true', Bool.not_eq_false', decide_eq_true_eq, decide_eq_false_iff_not] at c3
     refine SW_skip ?_
     refine SW_seq ?_
     refine SW_P [] [0, 3, 56, 57, 58] ?_
     refine SW_block ?_
     refine SW_L (fun g y => ∃ (i : Nat), i ≤ r.pkgs.length ∧ (∀ j, j < i → pkgE (nth r.pkgs j) = 0) ∧ y = ⟨[(0, (.ptr 0 0)), (3, (.ptr 4 0)), (56, (rowOf 12 pkgX r.pkgs)), (57, (.int .i64 ((r.pkgs.length : Int)))), (58, (.int .i64 ((i : Int))))], [(0, (.row [(.int .i64 st.kind), (.own 1), (.own 2), (.map 3)] 92)), (1, (.grow (st.repos.map repoNX) 41 4)), (2, (.grow (st.all.map keptX) 97 13)), (3, (.mm (namedG st.all) none 3 1)), (4, (.row [(.str r.name), (.int .i64 r.prio), (.bool r.inst), (rowOf 12 pkgX r.pkgs)] 41))], 5⟩ ∧ g = r.pkgs.length - i) [0, 3, 56, 57, 58] 5 _ (by omega) ⟨0, (by omega), (by exact fun j hj => by omega), (by kernel_rfl), rfl⟩ ?_
     rintro g1 y1 ⟨i, f1_1, f1_2, rfl, rfl⟩
     refine SW_P [] [0, 3, 56, 57, 58, 59] ?_
     refine SW_seq ?_
     refine SW_if (p := (i : Int) < (r.pkgs.length : Int)) (by kernel_rfl) (fun c4 => ?_) (fun c4 => ?_)
     ·refine SW_skip ?_
      refine SW_seq ?_
      refine SW_block ?_
      refine SW_H [] [0, 3, 6, 56, 57, 58] [] hk0 v0 (cc 0 (p := (0 ≤ (i : Int) ∧ i < r.pkgs.length)) (by first | omega | (simp; omega) | (simp; done) | (intros; simp_all; omega) | (intros; simp_all; done)) <| c0) ?_
      refine SW_H [] [0, 3, 7, 56, 57, 58] [(0, 6)] (hk 1 en_50 (Check_ok (nth r.pkgs i) (hp i (by omega))) <| hk0) v0 c0 ?_
      refine SW_P [] [0, 3, 7, 56, 57, 58, 65] ?_
      refine SW_ifn (p := (pkgE (nth r.pkgs i)) = 0) (by kernel_rfl) (fun c5 => ?_) (fun c5 => ?_)
      ·refine SW_P [] [4] ?_
       refine SW_ret ?_
       refine retS_mk (.inl rfl) (al := [(.int .i64 (pkgE (nth r.pkgs i)))]) (by kernel_rfl) ?_ ((by kernel_rfl : cutH 4 _ = some [(0, (.row [(.int .i64 st.kind), (.own 1), (.own 2), (.map 3)] 92)), (1, (.grow (st.repos.map repoNX) 41 4)), (2, (.grow (st.all.map keptX) 97 13)), (3, (.mm (namedG st.all) none 3 1))]).trans ?_)
       all_goals have hE : addE st r = pkgE (nth r.pkgs i) := by unfold addE; rw [if_neg (by simp only [not_or]; simp_all), if_neg (by rintro ⟨h1, h2⟩; rw [h1, h2] at c2; simp at c2), if_neg (by omega)]; exact firstE_at (by omega) f1_2 (by assumption)
       ·rw [hE]; rfl
       ·rw [addS_no hE (by assumption)]
      ·refine SW_skip ?_
       refine SW_reg ?_
       refine SO_HA 0 [] [0, 3, 56, 57, 58] [] hk0 v0 (cc 0 (p := (-9223372036854775808 ≤ (i : Int) + 1 ∧ (i : Int) + 1 ≤ 9223372036854775807)) (by first | omega | (simp; omega) | (simp; done) | (intros; simp_all; omega) | (intros; simp_all; done)) <| c0) ?_
       refine ⟨by kernel_rfl, _, ?_, i + 1, ?_, ?_, (by kernel_rfl), rfl⟩
       ·omega
       ·omega
       ·intro j hj
        by_cases h : j = i
        ·subst h; simp_all
        ·exact f1_2 j (by omega)
     ·refine SW_exit ?_
      refine SW_seq ?_
      refine SW_P [] [0, 3, 69, 70, 71] ?_
      refine SW_block ?_
      refine SW_L (fun g y => ∃ (i : Nat), i ≤ r.pkgs.length ∧ y = ⟨[(0, (.ptr 0 0)), (3, (.ptr 4 0)), (69, (rowOf 12 pkgX r.pkgs)), (70, (.int .i64 ((r.pkgs.length : Int)))), (71, (.int .i64 ((i : Int))))], [(0, (.row [(.int .i64 st.kind), (.own 1), (.own 2), (.map 3)] 92)), (1, (.grow (st.repos.map repoNX) 41 4)), (2, (.grow ((keptsTo st r i).map keptX) 97 13)), (3, (.mm (namedG (keptsTo st r i)) none 3 1)), (4, (.row [(.str r.name), (.int .i64 r.prio), (.bool r.inst), (rowOf 12 pkgX r.pkgs)] 41))], 5⟩ ∧ g = r.pkgs.length - i) [0, 3, 69, 70, 71] 5 _ (by omega) ⟨0, (by omega), (Eq.trans (b := (⟨[(0, (.ptr 0 0)), (3, (.ptr 4 0)), (69, (rowOf 12 pkgX r.pkgs)), (70, (.int .i64 ((r.pkgs.length : Int)))), (71, (.int .i64 0))], [(0, (.row [(.int .i64 st.kind), (.own 1), (.own 2), (.map 3)] 92)), (1, (.grow (st.repos.map repoNX) 41 4)), (2, (.grow (st.all.map keptX) 97 13)), (3, (.mm (namedG st.all) none 3 1)), (4, (.row [(.str r.name), (.int .i64 r.prio), (.bool r.inst), (rowOf 12 pkgX r.pkgs)] 41))], 5⟩ : St)) (by kernel_rfl) (by rw [show keptsTo st r 0 = st.all from by simp [keptsTo]] <;> rfl)), rfl⟩ ?_
      rintro g2 y2 ⟨i, f2_1, rfl, rfl⟩
      have hkl : ((keptsTo st r i).map keptX).length ≤ 200 := by have := keptsTo_len (st := st) (r := r) (i := i); rw [List.length_map]; omega
      have hgl : (namedG (keptsTo st r i) (nth r.pkgs i).name).length ≤ 200 := Nat.le_trans (namedG_len _ _) (by rwa [List.length_map] at hkl)
      refine SW_P [] [0, 3, 69, 70, 71, 72] ?_
      refine SW_seq ?_
      refine SW_if (p := (i : Int) < (r.pkgs.length : Int)) (by kernel_rfl) (fun c6 => ?_) (fun c6 => ?_)
      ·refine SW_skip ?_
       refine SW_C (fun y => y = ⟨[(0, (.ptr 0 0)), (3, (.ptr 4 0)), (69, (rowOf 12 pkgX r.pkgs)), (70, (.int .i64 ((r.pkgs.length : Int)))), (71, (.int .i64 ((i : Int))))], [(0, (.row [(.int .i64 st.kind), (.own 1), (.own 2), (.map 3)] 92)), (1, (.grow (st.repos.map repoNX) 41 4)), (2, (.grow ((keptsTo st r i ++ [(nth r.pkgs i, (st.repos.length : Int))]).map keptX) 97 13)), (3, (.mm (namedG (keptsTo st r i ++ [(nth r.pkgs i, (st.repos.length : Int))])) none 3 1)), (4, (.row [(.str r.name), (.int .i64 r.prio), (.bool r.inst), (rowOf 12 pkgX r.pkgs)] 41))], 5⟩) [0, 3, 69, 70, 71] 5 (by omega) ?_ ?_
       ·refine SW_block ?_
        refine SW_H [] [0, 3, 9, 69, 70, 71] [] hk0 v0 (cc 0 (p := (0 ≤ (i : Int) ∧ i < r.pkgs.length)) (by first | omega | (simp; omega) | (simp; done) | (intros; simp_all; omega) | (intros; simp_all; done)) <| c0) ?_
        refine SW_still 9 (y := ⟨[(0, (.ptr 0 0)), (3, (.ptr 4 0)), (9, (.fp (pkgX (nth r.pkgs i)))), (69, (rowOf 12 pkgX r.pkgs)), (70, (.int .i64 ((r.pkgs.length : Int)))), (71, (.int .i64 ((i : Int))))], [(0, (.row [(.int .i64 st.kind), (.own 1), (.own 2), (.map 3)] 92)), (1, (.grow (st.repos.map repoNX) 41 4)), (2, (.grow ((keptsTo st r i).map keptX) 97 13)), (3, (.mm (namedG (keptsTo st r i)) none 3 1)), (4, (.row [(.str r.name), (.int .i64 r.prio), (.bool r.inst), (rowOf 12 pkgX r.pkgs)] 41))], 6⟩) (by kernel_rfl) ?_
        refine SW_C (fun y => y = ⟨[(0, (.ptr 0 0)), (3, (.ptr 4 0)), (9, (.fp (pkgX (nth r.pkgs i)))), (69, (rowOf 12 pkgX r.pkgs)), (70, (.int .i64 ((r.pkgs.length : Int)))), (71, (.int .i64 ((i : Int))))], [(0, (.row [(.int .i64 st.kind), (.own 1), (.own 2), (.map 3)] 92)), (1, (.grow (st.repos.map repoNX) 41 4)), (2, (.grow ((keptsTo st r i).map keptX) 97 13)), (3, (.mm (namedG (keptsTo st r i ++ [(nth r.pkgs i, (st.repos.length : Int))])) none 3 1)), (4, (.row [(.str r.name), (.int .i64 r.prio), (.bool r.inst), (rowOf 12 pkgX r.pkgs)] 41))], 6⟩) [0, 3, 9, 69, 70, 71] 6 (by omega) ?_ ?_
        ·refine SW_draw (by kernel_rfl) (fun F1 hF1 => ?_)
         refine SG_memo false 1 (lsD 21 [0, 1, 2, 3, 4, 5, 6, 7, 8, 9, 10, 11, 12, 13, 14, 15, 16, 17, 18, 19]) ⟨[(0, (.ptr 0 0)), (3, (.ptr 4 0)), (9, (.fp (pkgX (nth r.pkgs i)))), (69, (rowOf 12 pkgX r.pkgs)), (70, (.int .i64 ((r.pkgs.length : Int)))), (71, (.int .i64 ((i : Int)))), (78, (.map 3)), (80, (.str ((nth r.pkgs i).name))), (94, (.own 6))], [(0, (.row [(.int .i64 st.kind), (.own 1), (.own 2), (.map 3)] 92)), (1, (.grow (st.repos.map repoNX) 41 4)), (2, (.grow ((keptsTo st r i).map keptX) 97 13)), (3, (.mm (namedG (keptsTo st r i)) (some ((nth r.pkgs i).name)) 3 1)), (4, (.row [(.str r.name), (.int .i64 r.prio), (.bool r.inst), (rowOf 12 pkgX r.pkgs)] 41)), (6, (.grow (((namedG (keptsTo st r i)) ((nth r.pkgs i).name)) ++ ([(.int .i64 ((((keptsTo st r i).map keptX).length : Int)))] : List AV)) 3 1)), (7, (.row [(.int .i64 ((((keptsTo st r i).map keptX).length : Int)))] 3))], 8⟩ ?_ (fun m1_1 => ?_)
         ·refine SG_one (fuel := 0) 20 (by kernel_rfl) ?_
          refine SN_by (fuel := 0) 20 rfl ?_
          refine SO_put (b := 3) (c := 6) (s := (nth r.pkgs i).name) (s1 := (nth r.pkgs i).name) (y := ⟨[(0, (.ptr 0 0)), (3, (.ptr 4 0)), (9, (.fp (pkgX (nth r.pkgs i)))), (69, (rowOf 12 pkgX r.pkgs)), (70, (.int .i64 ((r.pkgs.length : Int)))), (71, (.int .i64 ((i : Int)))), (78, (.map 3)), (80, (.str ((nth r.pkgs i).name))), (94, (.own 6))], [(0, (.row [(.int .i64 st.kind), (.own 1), (.own 2), (.map 3)] 92)), (1, (.grow (st.repos.map repoNX) 41 4)), (2, (.grow ((keptsTo st r i).map keptX) 97 13)), (3, (.mm (updG (namedG (keptsTo st r i)) ((nth r.pkgs i).name) (((namedG (keptsTo st r i)) ((nth r.pkgs i).name)) ++ ([(.int .i64 ((((keptsTo st r i).map keptX).length : Int)))] : List AV))) none 3 1)), (4, (.row [(.str r.name), (.int .i64 r.prio), (.bool r.inst), (rowOf 12 pkgX r.pkgs)] 41)), (7, (.row [(.int .i64 ((((keptsTo st r i).map keptX).length : Int)))] 3))], 8⟩) (by kernel_rfl) (by kernel_rfl) (by kernel_rfl) (by kernel_rfl) (by kernel_rfl) rfl Tryz.underlying90 Tryz.underlying9 (by kernel_rfl) rfl ?_
          refine SO_nil ⟨rfl, ?_⟩
          refine SG_S [0, 3, 9, 69, 70, 71] ?_
          refine SG_done (by kernel_rfl) ?_
          refine ⟨by kernel_rfl, (Eq.trans (b := (⟨[(0, (.ptr 0 0)), (3, (.ptr 4 0)), (9, (.fp (pkgX (nth r.pkgs i)))), (69, (rowOf 12 pkgX r.pkgs)), (70, (.int .i64 ((r.pkgs.length : Int)))), (71, (.int .i64 ((i : Int))))], [(0, (.row [(.int .i64 st.kind), (.own 1), (.own 2), (.map 3)] 92)), (1, (.grow (st.repos.map repoNX) 41 4)), (2, (.grow ((keptsTo st r i).map keptX) 97 13)), (3, (.mm (updG (namedG (keptsTo st r i)) ((nth r.pkgs i).name) (((namedG (keptsTo st r i)) ((nth r.pkgs i).name)) ++ ([(.int .i64 ((((keptsTo st r i).map keptX).length : Int)))] : List AV))) none 3 1)), (4, (.row [(.str r.name), (.int .i64 r.prio), (.bool r.inst), (rowOf 12 pkgX r.pkgs)] 41))], 6⟩ : St)) (by kernel_rfl) (by rw [show (updG (namedG (keptsTo st r i)) ((nth r.pkgs i).name) (((namedG (keptsTo st r i)) ((nth r.pkgs i).name)) ++ ([(.int .i64 ((((keptsTo st r i).map keptX).length : Int)))] : List AV))) = namedG (keptsTo st r i ++ [(nth r.pkgs i, (st.repos.length : Int))]) from by (try rw [List.length_map]); exact namedG_put (keptsTo st r i) (nth r.pkgs i, (st.repos.length : Int))] <;> kernel_rfl))⟩
         refine SG_memo false 1 (lsD 21 [0, 1, 2, 3, 4, 5, 6, 7, 8, 9, 10, 11, 12, 13, 14, 15, 16, 17, 18, 19]) ⟨[(0, (.ptr 0 0)), (3, (.ptr 4 0)), (9, (.fp (pkgX (nth r.pkgs i)))), (69, (rowOf 12 pkgX r.pkgs)), (70, (.int .i64 ((r.pkgs.length : Int)))), (71, (.int .i64 ((i : Int)))), (78, (.map 3)), (80, (.str ((nth r.pkgs i).name))), (94, (.own 7))], [(0, (.row [(.int .i64 st.kind), (.own 1), (.own 2), (.map 3)] 92)), (1, (.grow (st.repos.map repoNX) 41 4)), (2, (.grow ((keptsTo st r i).map keptX) 97 13)), (3, (.mm (namedG (keptsTo st r i)) (some ((nth r.pkgs i).name)) 3 1)), (4, (.row [(.str r.name), (.int .i64 r.prio), (.bool r.inst), (rowOf 12 pkgX r.pkgs)] 41)), (6, (.row [(.int .i64 ((((keptsTo st r i).map keptX).length : Int)))] 3)), (7, (.grow (((namedG (keptsTo st r i)) ((nth r.pkgs i).name)) ++ ([(.int .i64 ((((keptsTo st r i).map keptX).length : Int)))] : List AV)) 3 1))], 8⟩ ?_ (fun m1_2 => ?_)
         ·refine SG_one (fuel := 0) 20 (by kernel_rfl) ?_
          refine SN_by (fuel := 0) 20 rfl ?_
          refine SO_put (b := 3) (c := 7) (s := (nth r.pkgs i).name) (s1 := (nth r.pkgs i).name) (y := ⟨[(0, (.ptr 0 0)), (3, (.ptr 4 0)), (9, (.fp (pkgX (nth r.pkgs i)))), (69, (rowOf 12 pkgX r.pkgs)), (70, (.int .i64 ((r.pkgs.length : Int)))), (71, (.int .i64 ((i : Int)))), (78, (.map 3)), (80, (.str ((nth r.pkgs i).name))), (94, (.own 7))], [(0, (.row [(.int .i64 st.kind), (.own 1), (.own 2), (.map 3)] 92)), (1, (.grow (st.repos.map repoNX) 41 4)), (2, (.grow ((keptsTo st r i).map keptX) 97 13)), (3, (.mm (updG (namedG (keptsTo st r i)) ((nth r.pkgs i).name) (((namedG (keptsTo st r i)) ((nth r.pkgs i).name)) ++ ([(.int .i64 ((((keptsTo st r i).map keptX).length : Int)))] : List AV))) none 3 1)), (4, (.row [(.str r.name), (.int .i64 r.prio), (.bool r.inst), (rowOf 12 pkgX r.pkgs)] 41)), (6, (.row [(.int .i64 ((((keptsTo st r i).map keptX).length : Int)))] 3))], 8⟩) (by kernel_rfl) (by kernel_rfl) (by kernel_rfl) (by kernel_rfl) (by kernel_rfl) rfl Tryz.underlying90 Tryz.underlying9 (by kernel_rfl) rfl ?_
          refine SO_nil ⟨rfl, ?_⟩
          refine SG_S [0, 3, 9, 69, 70, 71] ?_
          refine SG_done (by kernel_rfl) ?_
          refine ⟨by kernel_rfl, (Eq.trans (b := (⟨[(0, (.ptr 0 0)), (3, (.ptr 4 0)), (9, (.fp (pkgX (nth r.pkgs i)))), (69, (rowOf 12 pkgX r.pkgs)), (70, (.int .i64 ((r.pkgs.length : Int)))), (71, (.int .i64 ((i : Int))))], [(0, (.row [(.int .i64 st.kind), (.own 1), (.own 2), (.map 3)] 92)), (1, (.grow (st.repos.map repoNX) 41 4)), (2, (.grow ((keptsTo st r i).map keptX) 97 13)), (3, (.mm (updG (namedG (keptsTo st r i)) ((nth r.pkgs i).name) (((namedG (keptsTo st r i)) ((nth r.pkgs i).name)) ++ ([(.int .i64 ((((keptsTo st r i).map keptX).length : Int)))] : List AV))) none 3 1)), (4, (.row [(.str r.name), (.int .i64 r.prio), (.bool r.inst), (rowOf 12 pkgX r.pkgs)] 41))], 6⟩ : St)) (by kernel_rfl) (by rw [show (updG (namedG (keptsTo st r i)) ((nth r.pkgs i).name) (((namedG (keptsTo st r i)) ((nth r.pkgs i).name)) ++ ([(.int .i64 ((((keptsTo st r i).map keptX).length : Int)))] : List AV))) = namedG (keptsTo st r i ++ [(nth r.pkgs i, (st.repos.length : Int))]) from by (try rw [List.length_map]); exact namedG_put (keptsTo st r i) (nth r.pkgs i, (st.repos.length : Int))] <;> kernel_rfl))⟩
         refine SG_memo false 2 (lsD 21 [0, 1, 2, 3, 4, 5, 6, 7, 8, 9, 10, 11, 12, 13, 14, 15, 16, 17, 18]) ⟨[(0, (.ptr 0 0)), (3, (.ptr 4 0)), (9, (.fp (pkgX (nth r.pkgs i)))), (69, (rowOf 12 pkgX r.pkgs)), (70, (.int .i64 ((r.pkgs.length : Int)))), (71, (.int .i64 ((i : Int)))), (78, (.map 3)), (80, (.str ((nth r.pkgs i).name))), (87, (.own 6)), (93, (.sl 7 0 1 1 false))], [(0, (.row [(.int .i64 st.kind), (.own 1), (.own 2), (.map 3)] 92)), (1, (.grow (st.repos.map repoNX) 41 4)), (2, (.grow ((keptsTo st r i).map keptX) 97 13)), (3, (.mm (namedG (keptsTo st r i)) (some ((nth r.pkgs i).name)) 3 1)), (4, (.row [(.str r.name), (.int .i64 r.prio), (.bool r.inst), (rowOf 12 pkgX r.pkgs)] 41)), (6, (.grow ((namedG (keptsTo st r i)) ((nth r.pkgs i).name)) 3 1)), (7, (.row [(.int .i64 ((((keptsTo st r i).map keptX).length : Int)))] 3))], 8⟩ ?_ (fun m1_3 => ?_)
         ·refine SG_I (fuel := 1) 19 [] (hold (p := ((((namedG (keptsTo st r i)) ((nth r.pkgs i).name)).length + 1) * 8 ≤ 140737488355328)) (by first | omega | (simp; omega) | (simp; done) | (intros; simp_all; omega) | (intros; simp_all; done))) ?_
          refine SG_S [0, 3, 9, 69, 70, 71, 78, 80, 94] ?_
          exact SG_G m1_1
         refine SG_memo false 2 (lsD 21 [0, 1, 2, 3, 4, 5, 6, 7, 8, 9, 10, 11, 12, 13, 14, 15, 16, 17, 18]) ⟨[(0, (.ptr 0 0)), (3, (.ptr 4 0)), (9, (.fp (pkgX (nth r.pkgs i)))), (69, (rowOf 12 pkgX r.pkgs)), (70, (.int .i64 ((r.pkgs.length : Int)))), (71, (.int .i64 ((i : Int)))), (78, (.map 3)), (80, (.str ((nth r.pkgs i).name))), (87, (.own 7)), (93, (.sl 6 0 1 1 false))], [(0, (.row [(.int .i64 st.kind), (.own 1), (.own 2), (.map 3)] 92)), (1, (.grow (st.repos.map repoNX) 41 4)), (2, (.grow ((keptsTo st r i).map keptX) 97 13)), (3, (.mm (namedG (keptsTo st r i)) (some ((nth r.pkgs i).name)) 3 1)), (4, (.row [(.str r.name), (.int .i64 r.prio), (.bool r.inst), (rowOf 12 pkgX r.pkgs)] 41)), (6, (.row [(.int .i64 ((((keptsTo st r i).map keptX).length : Int)))] 3)), (7, (.grow ((namedG (keptsTo st r i)) ((nth r.pkgs i).name)) 3 1))], 8⟩ ?_ (fun m1_4 => ?_)
         ·refine SG_I (fuel := 1) 19 [] (hold (p := ((((namedG (keptsTo st r i)) ((nth r.pkgs i).name)).length + 1) * 8 ≤ 140737488355328)) (by first | omega | (simp; omega) | (simp; done) | (intros; simp_all; omega) | (intros; simp_all; done))) ?_
          refine SG_S [0, 3, 9, 69, 70, 71, 78, 80, 94] ?_
          exact SG_G m1_2
         refine SG_memo false 3 (lsD 21 [0, 1, 2, 3, 4, 5, 6, 7, 8, 9, 10, 11, 12, 13, 14, 15, 16, 17]) ⟨[(0, (.ptr 0 0)), (3, (.ptr 4 0)), (9, (.fp (pkgX (nth r.pkgs i)))), (69, (rowOf 12 pkgX r.pkgs)), (70, (.int .i64 ((r.pkgs.length : Int)))), (71, (.int .i64 ((i : Int)))), (78, (.map 3)), (80, (.str ((nth r.pkgs i).name))), (87, (.own 6)), (92, (.int .i64 ((((keptsTo st r i).map keptX).length : Int))))], [(0, (.row [(.int .i64 st.kind), (.own 1), (.own 2), (.map 3)] 92)), (1, (.grow (st.repos.map repoNX) 41 4)), (2, (.grow ((keptsTo st r i).map keptX) 97 13)), (3, (.mm (namedG (keptsTo st r i)) (some ((nth r.pkgs i).name)) 3 1)), (4, (.row [(.str r.name), (.int .i64 r.prio), (.bool r.inst), (rowOf 12 pkgX r.pkgs)] 41)), (6, (.grow ((namedG (keptsTo st r i)) ((nth r.pkgs i).name)) 3 1))], 7⟩ ?_ (fun m1_5 => ?_)
         ·refine SG_I (fuel := 2) 18 [] hold0 ?_
          refine SG_S [0, 3, 9, 69, 70, 71, 78, 80, 87, 93] ?_
          exact SG_G m1_3
         refine SG_memo true 3 (lsD 21 [0, 1, 2, 3, 4, 5, 6, 7, 8, 9, 10, 11, 13, 14, 15, 16, 17, 18]) ⟨[(0, (.ptr 0 0)), (3, (.ptr 4 0)), (9, (.fp (pkgX (nth r.pkgs i)))), (69, (rowOf 12 pkgX r.pkgs)), (70, (.int .i64 ((r.pkgs.length : Int)))), (71, (.int .i64 ((i : Int)))), (78, (.map 3)), (80, (.str ((nth r.pkgs i).name))), (84, (.map 3)), (86, (.str ((nth r.pkgs i).name))), (93, (.sl 6 0 1 1 false))], [(0, (.row [(.int .i64 st.kind), (.own 1), (.own 2), (.map 3)] 92)), (1, (.grow (st.repos.map repoNX) 41 4)), (2, (.grow ((keptsTo st r i).map keptX) 97 13)), (3, (.mm (namedG (keptsTo st r i)) none 3 1)), (4, (.row [(.str r.name), (.int .i64 r.prio), (.bool r.inst), (rowOf 12 pkgX r.pkgs)] 41)), (6, (.row [(.int .i64 ((((keptsTo st r i).map keptX).length : Int)))] 3))], 7⟩ ?_ (fun m1_6 => ?_)
         ·refine SG_one (fuel := 2) 12 (by kernel_rfl) ?_
          refine SN_by (fuel := 2) 12 rfl ?_
          refine SO_take (b := 3) (s := (nth r.pkgs i).name) (y := ⟨[(0, (.ptr 0 0)), (3, (.ptr 4 0)), (9, (.fp (pkgX (nth r.pkgs i)))), (69, (rowOf 12 pkgX r.pkgs)), (70, (.int .i64 ((r.pkgs.length : Int)))), (71, (.int .i64 ((i : Int)))), (78, (.map 3)), (80, (.str ((nth r.pkgs i).name))), (84, (.map 3)), (86, (.str ((nth r.pkgs i).name))), (93, (.sl 6 0 1 1 false)), (87, (.own 7))], [(0, (.row [(.int .i64 st.kind), (.own 1), (.own 2), (.map 3)] 92)), (1, (.grow (st.repos.map repoNX) 41 4)), (2, (.grow ((keptsTo st r i).map keptX) 97 13)), (3, (.mm (namedG (keptsTo st r i)) (some ((nth r.pkgs i).name)) 3 1)), (4, (.row [(.str r.name), (.int .i64 r.prio), (.bool r.inst), (rowOf 12 pkgX r.pkgs)] 41)), (6, (.row [(.int .i64 ((((keptsTo st r i).map keptX).length : Int)))] 3)), (7, (.grow ((namedG (keptsTo st r i)) ((nth r.pkgs i).name)) 3 1))], 8⟩) (by kernel_rfl) (by kernel_rfl) (by kernel_rfl) Tryz.underlying90 Tryz.underlying9 (fun _ => by kernel_rfl) (by kernel_rfl) ?_
          refine SO_nil ⟨rfl, ?_⟩
          refine SG_S [0, 3, 9, 69, 70, 71, 78, 80, 87, 93] ?_
          exact SG_G m1_4
         refine SG_memo false 4 (lsD 21 [0, 1, 2, 3, 4, 5, 6, 7, 8, 9, 10, 11, 12, 13, 14, 15, 16]) ⟨[(0, (.ptr 0 0)), (3, (.ptr 4 0)), (9, (.fp (pkgX (nth r.pkgs i)))), (69, (rowOf 12 pkgX r.pkgs)), (70, (.int .i64 ((r.pkgs.length : Int)))), (71, (.int .i64 ((i : Int)))), (78, (.map 3)), (80, (.str ((nth r.pkgs i).name))), (87, (.own 6)), (91, (.own 2))], [(0, (.row [(.int .i64 st.kind), (.own 1), (.own 2), (.map 3)] 92)), (1, (.grow (st.repos.map repoNX) 41 4)), (2, (.grow ((keptsTo st r i).map keptX) 97 13)), (3, (.mm (namedG (keptsTo st r i)) (some ((nth r.pkgs i).name)) 3 1)), (4, (.row [(.str r.name), (.int .i64 r.prio), (.bool r.inst), (rowOf 12 pkgX r.pkgs)] 41)), (6, (.grow ((namedG (keptsTo st r i)) ((nth r.pkgs i).name)) 3 1))], 7⟩ ?_ (fun m1_7 => ?_)
         ·refine SG_I (fuel := 3) 17 [] hold0 ?_
          refine SG_S [0, 3, 9, 69, 70, 71, 78, 80, 87, 92] ?_
          exact SG_G m1_5
         refine SG_memo true 4 (lsD 21 [0, 1, 2, 3, 4, 5, 6, 7, 8, 9, 10, 11, 13, 14, 15, 16, 17]) ⟨[(0, (.ptr 0 0)), (3, (.ptr 4 0)), (9, (.fp (pkgX (nth r.pkgs i)))), (69, (rowOf 12 pkgX r.pkgs)), (70, (.int .i64 ((r.pkgs.length : Int)))), (71, (.int .i64 ((i : Int)))), (78, (.map 3)), (80, (.str ((nth r.pkgs i).name))), (84, (.map 3)), (86, (.str ((nth r.pkgs i).name))), (92, (.int .i64 ((((keptsTo st r i).map keptX).length : Int))))], [(0, (.row [(.int .i64 st.kind), (.own 1), (.own 2), (.map 3)] 92)), (1, (.grow (st.repos.map repoNX) 41 4)), (2, (.grow ((keptsTo st r i).map keptX) 97 13)), (3, (.mm (namedG (keptsTo st r i)) none 3 1)), (4, (.row [(.str r.name), (.int .i64 r.prio), (.bool r.inst), (rowOf 12 pkgX r.pkgs)] 41))], 6⟩ ?_ (fun m1_8 => ?_)
         ·refine SG_two 12 18 (by kernel_rfl) ?_ ?_
          ·refine SN_by (fuel := 3) 12 rfl ?_
           refine SO_take (b := 3) (s := (nth r.pkgs i).name) (y := ⟨[(0, (.ptr 0 0)), (3, (.ptr 4 0)), (9, (.fp (pkgX (nth r.pkgs i)))), (69, (rowOf 12 pkgX r.pkgs)), (70, (.int .i64 ((r.pkgs.length : Int)))), (71, (.int .i64 ((i : Int)))), (78, (.map 3)), (80, (.str ((nth r.pkgs i).name))), (84, (.map 3)), (86, (.str ((nth r.pkgs i).name))), (92, (.int .i64 ((((keptsTo st r i).map keptX).length : Int)))), (87, (.own 6))], [(0, (.row [(.int .i64 st.kind), (.own 1), (.own 2), (.map 3)] 92)), (1, (.grow (st.repos.map repoNX) 41 4)), (2, (.grow ((keptsTo st r i).map keptX) 97 13)), (3, (.mm (namedG (keptsTo st r i)) (some ((nth r.pkgs i).name)) 3 1)), (4, (.row [(.str r.name), (.int .i64 r.prio), (.bool r.inst), (rowOf 12 pkgX r.pkgs)] 41)), (6, (.grow ((namedG (keptsTo st r i)) ((nth r.pkgs i).name)) 3 1))], 7⟩) (by kernel_rfl) (by kernel_rfl) (by kernel_rfl) Tryz.underlying90 Tryz.underlying9 (fun _ => by kernel_rfl) (by kernel_rfl) ?_
           refine SO_nil ⟨rfl, ?_⟩
           refine SG_S [0, 3, 9, 69, 70, 71, 78, 80, 87, 92] ?_
           exact SG_G m1_5
          ·refine SN_I (fuel := 3) 18 [] hold0 ?_
           refine SG_S [0, 3, 9, 69, 70, 71, 78, 80, 84, 86, 93] ?_
           exact SG_G m1_6
         refine SG_memo true 4 (lsD 21 [0, 1, 2, 3, 4, 5, 6, 7, 8, 10, 11, 13, 14, 15, 16, 17, 18]) ⟨[(0, (.ptr 0 0)), (3, (.ptr 4 0)), (9, (.fp (pkgX (nth r.pkgs i)))), (69, (rowOf 12 pkgX r.pkgs)), (70, (.int .i64 ((r.pkgs.length : Int)))), (71, (.int .i64 ((i : Int)))), (78, (.map 3)), (80, (.str ((nth r.pkgs i).name))), (83, (.ptr 0 3)), (86, (.str ((nth r.pkgs i).name))), (93, (.sl 6 0 1 1 false))], [(0, (.row [(.int .i64 st.kind), (.own 1), (.own 2), (.map 3)] 92)), (1, (.grow (st.repos.map repoNX) 41 4)), (2, (.grow ((keptsTo st r i).map keptX) 97 13)), (3, (.mm (namedG (keptsTo st r i)) none 3 1)), (4, (.row [(.str r.name), (.int .i64 r.prio), (.bool r.inst), (rowOf 12 pkgX r.pkgs)] 41)), (6, (.row [(.int .i64 ((((keptsTo st r i).map keptX).length : Int)))] 3))], 7⟩ ?_ (fun m1_9 => ?_)
         ·refine SG_I (fuel := 3) 9 [] hold0 ?_
          refine SG_S [0, 3, 9, 69, 70, 71, 78, 80, 84, 86, 93] ?_
          exact SG_G m1_6
         refine SG_memo false 4 (lsD 21 [0, 1, 2, 4, 5, 6, 7, 8, 9, 10, 11, 12, 13, 14, 15, 16, 17]) ⟨[(0, (.ptr 0 0)), (3, (.ptr 4 0)), (9, (.fp (pkgX (nth r.pkgs i)))), (69, (rowOf 12 pkgX r.pkgs)), (70, (.int .i64 ((r.pkgs.length : Int)))), (71, (.int .i64 ((i : Int)))), (77, (.ptr 0 3)), (80, (.str ((nth r.pkgs i).name))), (87, (.own 6)), (92, (.int .i64 ((((keptsTo st r i).map keptX).length : Int))))], [(0, (.row [(.int .i64 st.kind), (.own 1), (.own 2), (.map 3)] 92)), (1, (.grow (st.repos.map repoNX) 41 4)), (2, (.grow ((keptsTo st r i).map keptX) 97 13)), (3, (.mm (namedG (keptsTo st r i)) (some ((nth r.pkgs i).name)) 3 1)), (4, (.row [(.str r.name), (.int .i64 r.prio), (.bool r.inst), (rowOf 12 pkgX r.pkgs)] 41)), (6, (.grow ((namedG (keptsTo st r i)) ((nth r.pkgs i).name)) 3 1))], 7⟩ ?_ (fun m1_10 => ?_)
         ·refine SG_two 3 18 (by kernel_rfl) ?_ ?_
          ·refine SN_I (fuel := 3) 3 [] hold0 ?_
           refine SG_S [0, 3, 9, 69, 70, 71, 78, 80, 87, 92] ?_
           exact SG_G m1_5
          ·refine SN_I (fuel := 3) 18 [] hold0 ?_
           refine SG_S [0, 3, 9, 69, 70, 71, 77, 80, 87, 93] ?_
           refine SG_two 3 19 (by kernel_rfl) ?_ ?_
           ·refine SN_I (fuel := 2) 3 [] hold0 ?_
            refine SG_S [0, 3, 9, 69, 70, 71, 78, 80, 87, 93] ?_
            exact SG_G m1_3
           ·refine SN_I (fuel := 2) 19 [] (hold (p := ((((namedG (keptsTo st r i)) ((nth r.pkgs i).name)).length + 1) * 8 ≤ 140737488355328)) (by first | omega | (simp; omega) | (simp; done) | (intros; simp_all; omega) | (intros; simp_all; done))) ?_
            refine SG_S [0, 3, 9, 69, 70, 71, 77, 80, 94] ?_
            refine SG_I (fuel := 1) 3 [] hold0 ?_
            refine SG_S [0, 3, 9, 69, 70, 71, 78, 80, 94] ?_
            exact SG_G m1_1
         refine SG_memo true 4 (lsD 21 [0, 1, 2, 4, 5, 6, 7, 8, 9, 10, 11, 13, 14, 15, 16, 17, 18]) ⟨[(0, (.ptr 0 0)), (3, (.ptr 4 0)), (9, (.fp (pkgX (nth r.pkgs i)))), (69, (rowOf 12 pkgX r.pkgs)), (70, (.int .i64 ((r.pkgs.length : Int)))), (71, (.int .i64 ((i : Int)))), (77, (.ptr 0 3)), (80, (.str ((nth r.pkgs i).name))), (84, (.map 3)), (86, (.str ((nth r.pkgs i).name))), (93, (.sl 6 0 1 1 false))], [(0, (.row [(.int .i64 st.kind), (.own 1), (.own 2), (.map 3)] 92)), (1, (.grow (st.repos.map repoNX) 41 4)), (2, (.grow ((keptsTo st r i).map keptX) 97 13)), (3, (.mm (namedG (keptsTo st r i)) none 3 1)), (4, (.row [(.str r.name), (.int .i64 r.prio), (.bool r.inst), (rowOf 12 pkgX r.pkgs)] 41)), (6, (.row [(.int .i64 ((((keptsTo st r i).map keptX).length : Int)))] 3))], 7⟩ ?_ (fun m1_11 => ?_)
         ·refine SG_two 3 12 (by kernel_rfl) ?_ ?_
          ·refine SN_I (fuel := 3) 3 [] hold0 ?_
           refine SG_S [0, 3, 9, 69, 70, 71, 78, 80, 84, 86, 93] ?_
           exact SG_G m1_6
          ·refine SN_by (fuel := 3) 12 rfl ?_
           refine SO_take (b := 3) (s := (nth r.pkgs i).name) (y := ⟨[(0, (.ptr 0 0)), (3, (.ptr 4 0)), (9, (.fp (pkgX (nth r.pkgs i)))), (69, (rowOf 12 pkgX r.pkgs)), (70, (.int .i64 ((r.pkgs.length : Int)))), (71, (.int .i64 ((i : Int)))), (77, (.ptr 0 3)), (80, (.str ((nth r.pkgs i).name))), (84, (.map 3)), (86, (.str ((nth r.pkgs i).name))), (93, (.sl 6 0 1 1 false)), (87, (.own 7))], [(0, (.row [(.int .i64 st.kind), (.own 1), (.own 2), (.map 3)] 92)), (1, (.grow (st.repos.map repoNX) 41 4)), (2, (.grow ((keptsTo st r i).map keptX) 97 13)), (3, (.mm (namedG (keptsTo st r i)) (some ((nth r.pkgs i).name)) 3 1)), (4, (.row [(.str r.name), (.int .i64 r.prio), (.bool r.inst), (rowOf 12 pkgX r.pkgs)] 41)), (6, (.row [(.int .i64 ((((keptsTo st r i).map keptX).length : Int)))] 3)), (7, (.grow ((namedG (keptsTo st r i)) ((nth r.pkgs i).name)) 3 1))], 8⟩) (by kernel_rfl) (by kernel_rfl) (by kernel_rfl) Tryz.underlying90 Tryz.underlying9 (fun _ => by kernel_rfl) (by kernel_rfl) ?_
           refine SO_nil ⟨rfl, ?_⟩
           refine SG_S [0, 3, 9, 69, 70, 71, 77, 80, 87, 93] ?_
           refine SG_two 3 19 (by kernel_rfl) ?_ ?_
           ·refine SN_I (fuel := 2) 3 [] hold0 ?_
            refine SG_S [0, 3, 9, 69, 70, 71, 78, 80, 87, 93] ?_
            exact SG_G m1_4
           ·refine SN_I (fuel := 2) 19 [] (hold (p := ((((namedG (keptsTo st r i)) ((nth r.pkgs i).name)).length + 1) * 8 ≤ 140737488355328)) (by first | omega | (simp; omega) | (simp; done) | (intros; simp_all; omega) | (intros; simp_all; done))) ?_
            refine SG_S [0, 3, 9, 69, 70, 71, 77, 80, 94] ?_
            refine SG_I (fuel := 1) 3 [] hold0 ?_
            refine SG_S [0, 3, 9, 69, 70, 71, 78, 80, 94] ?_
            exact SG_G m1_2
         refine SG_memo false 5 (lsD 21 [0, 1, 2, 3, 4, 5, 6, 7, 8, 9, 10, 11, 12, 13, 14, 15]) ⟨[(0, (.ptr 0 0)), (3, (.ptr 4 0)), (9, (.fp (pkgX (nth r.pkgs i)))), (69, (rowOf 12 pkgX r.pkgs)), (70, (.int .i64 ((r.pkgs.length : Int)))), (71, (.int .i64 ((i : Int)))), (78, (.map 3)), (80, (.str ((nth r.pkgs i).name))), (87, (.own 6)), (90, (.ptr 0 2))], [(0, (.row [(.int .i64 st.kind), (.own 1), (.own 2), (.map 3)] 92)), (1, (.grow (st.repos.map repoNX) 41 4)), (2, (.grow ((keptsTo st r i).map keptX) 97 13)), (3, (.mm (namedG (keptsTo st r i)) (some ((nth r.pkgs i).name)) 3 1)), (4, (.row [(.str r.name), (.int .i64 r.prio), (.bool r.inst), (rowOf 12 pkgX r.pkgs)] 41)), (6, (.grow ((namedG (keptsTo st r i)) ((nth r.pkgs i).name)) 3 1))], 7⟩ ?_ (fun m1_12 => ?_)
         ·refine SG_I (fuel := 4) 16 [] hold0 ?_
          refine SG_S [0, 3, 9, 69, 70, 71, 78, 80, 87, 91] ?_
          exact SG_G m1_7
         refine SG_memo true 5 (lsD 21 [0, 1, 2, 3, 4, 5, 6, 7, 8, 9, 10, 11, 13, 14, 15, 16]) ⟨[(0, (.ptr 0 0)), (3, (.ptr 4 0)), (9, (.fp (pkgX (nth r.pkgs i)))), (69, (rowOf 12 pkgX r.pkgs)), (70, (.int .i64 ((r.pkgs.length : Int)))), (71, (.int .i64 ((i : Int)))), (78, (.map 3)), (80, (.str ((nth r.pkgs i).name))), (84, (.map 3)), (86, (.str ((nth r.pkgs i).name))), (91, (.own 2))], [(0, (.row [(.int .i64 st.kind), (.own 1), (.own 2), (.map 3)] 92)), (1, (.grow (st.repos.map repoNX) 41 4)), (2, (.grow ((keptsTo st r i).map keptX) 97 13)), (3, (.mm (namedG (keptsTo st r i)) none 3 1)), (4, (.row [(.str r.name), (.int .i64 r.prio), (.bool r.inst), (rowOf 12 pkgX r.pkgs)] 41))], 6⟩ ?_ (fun m1_13 => ?_)
         ·refine SG_two 12 17 (by kernel_rfl) ?_ ?_
          ·refine SN_by (fuel := 4) 12 rfl ?_
           refine SO_take (b := 3) (s := (nth r.pkgs i).name) (y := ⟨[(0, (.ptr 0 0)), (3, (.ptr 4 0)), (9, (.fp (pkgX (nth r.pkgs i)))), (69, (rowOf 12 pkgX r.pkgs)), (70, (.int .i64 ((r.pkgs.length : Int)))), (71, (.int .i64 ((i : Int)))), (78, (.map 3)), (80, (.str ((nth r.pkgs i).name))), (84, (.map 3)), (86, (.str ((nth r.pkgs i).name))), (91, (.own 2)), (87, (.own 6))], [(0, (.row [(.int .i64 st.kind), (.own 1), (.own 2), (.map 3)] 92)), (1, (.grow (st.repos.map repoNX) 41 4)), (2, (.grow ((keptsTo st r i).map keptX) 97 13)), (3, (.mm (namedG (keptsTo st r i)) (some ((nth r.pkgs i).name)) 3 1)), (4, (.row [(.str r.name), (.int .i64 r.prio), (.bool r.inst), (rowOf 12 pkgX r.pkgs)] 41)), (6, (.grow ((namedG (keptsTo st r i)) ((nth r.pkgs i).name)) 3 1))], 7⟩) (by kernel_rfl) (by kernel_rfl) (by kernel_rfl) Tryz.underlying90 Tryz.underlying9 (fun _ => by kernel_rfl) (by kernel_rfl) ?_
           refine SO_nil ⟨rfl, ?_⟩
           refine SG_S [0, 3, 9, 69, 70, 71, 78, 80, 87, 91] ?_
           exact SG_G m1_7
          ·refine SN_I (fuel := 4) 17 [] hold0 ?_
           refine SG_S [0, 3, 9, 69, 70, 71, 78, 80, 84, 86, 92] ?_
           exact SG_G m1_8
         refine SG_memo true 5 (lsD 21 [0, 1, 2, 3, 4, 5, 6, 7, 8, 10, 11, 13, 14, 15, 16, 17]) ⟨[(0, (.ptr 0 0)), (3, (.ptr 4 0)), (9, (.fp (pkgX (nth r.pkgs i)))), (69, (rowOf 12 pkgX r.pkgs)), (70, (.int .i64 ((r.pkgs.length : Int)))), (71, (.int .i64 ((i : Int)))), (78, (.map 3)), (80, (.str ((nth r.pkgs i).name))), (83, (.ptr 0 3)), (86, (.str ((nth r.pkgs i).name))), (92, (.int .i64 ((((keptsTo st r i).map keptX).length : Int))))], [(0, (.row [(.int .i64 st.kind), (.own 1), (.own 2), (.map 3)] 92)), (1, (.grow (st.repos.map repoNX) 41 4)), (2, (.grow ((keptsTo st r i).map keptX) 97 13)), (3, (.mm (namedG (keptsTo st r i)) none 3 1)), (4, (.row [(.str r.name), (.int .i64 r.prio), (.bool r.inst), (rowOf 12 pkgX r.pkgs)] 41))], 6⟩ ?_ (fun m1_14 => ?_)
         ·refine SG_two 9 18 (by kernel_rfl) ?_ ?_
          ·refine SN_I (fuel := 4) 9 [] hold0 ?_
           refine SG_S [0, 3, 9, 69, 70, 71, 78, 80, 84, 86, 92] ?_
           exact SG_G m1_8
          ·refine SN_I (fuel := 4) 18 [] hold0 ?_
           refine SG_S [0, 3, 9, 69, 70, 71, 78, 80, 83, 86, 93] ?_
           exact SG_G m1_9
         refine SG_memo false 5 (lsD 21 [0, 1, 2, 4, 5, 6, 7, 8, 9, 10, 11, 12, 13, 14, 15, 16]) ⟨[(0, (.ptr 0 0)), (3, (.ptr 4 0)), (9, (.fp (pkgX (nth r.pkgs i)))), (69, (rowOf 12 pkgX r.pkgs)), (70, (.int .i64 ((r.pkgs.length : Int)))), (71, (.int .i64 ((i : Int)))), (77, (.ptr 0 3)), (80, (.str ((nth r.pkgs i).name))), (87, (.own 6)), (91, (.own 2))], [(0, (.row [(.int .i64 st.kind), (.own 1), (.own 2), (.map 3)] 92)), (1, (.grow (st.repos.map repoNX) 41 4)), (2, (.grow ((keptsTo st r i).map keptX) 97 13)), (3, (.mm (namedG (keptsTo st r i)) (some ((nth r.pkgs i).name)) 3 1)), (4, (.row [(.str r.name), (.int .i64 r.prio), (.bool r.inst), (rowOf 12 pkgX r.pkgs)] 41)), (6, (.grow ((namedG (keptsTo st r i)) ((nth r.pkgs i).name)) 3 1))], 7⟩ ?_ (fun m1_15 => ?_)
         ·refine SG_two 3 17 (by kernel_rfl) ?_ ?_
          ·refine SN_I (fuel := 4) 3 [] hold0 ?_
           refine SG_S [0, 3, 9, 69, 70, 71, 78, 80, 87, 91] ?_
           exact SG_G m1_7
          ·refine SN_I (fuel := 4) 17 [] hold0 ?_
           refine SG_S [0, 3, 9, 69, 70, 71, 77, 80, 87, 92] ?_
           exact SG_G m1_10
         refine SG_memo true 5 (lsD 21 [0, 1, 2, 4, 5, 6, 7, 8, 9, 10, 11, 13, 14, 15, 16, 17]) ⟨[(0, (.ptr 0 0)), (3, (.ptr 4 0)), (9, (.fp (pkgX (nth r.pkgs i)))), (69, (rowOf 12 pkgX r.pkgs)), (70, (.int .i64 ((r.pkgs.length : Int)))), (71, (.int .i64 ((i : Int)))), (77, (.ptr 0 3)), (80, (.str ((nth r.pkgs i).name))), (84, (.map 3)), (86, (.str ((nth r.pkgs i).name))), (92, (.int .i64 ((((keptsTo st r i).map keptX).length : Int))))], [(0, (.row [(.int .i64 st.kind), (.own 1), (.own 2), (.map 3)] 92)), (1, (.grow (st.repos.map repoNX) 41 4)), (2, (.grow ((keptsTo st r i).map keptX) 97 13)), (3, (.mm (namedG (keptsTo st r i)) none 3 1)), (4, (.row [(.str r.name), (.int .i64 r.prio), (.bool r.inst), (rowOf 12 pkgX r.pkgs)] 41))], 6⟩ ?_ (fun m1_16 => ?_)
         ·refine SG_three 3 12 18 (by kernel_rfl) ?_ ?_ ?_
          ·refine SN_I (fuel := 4) 3 [] hold0 ?_
           refine SG_S [0, 3, 9, 69, 70, 71, 78, 80, 84, 86, 92] ?_
           exact SG_G m1_8
          ·refine SN_by (fuel := 4) 12 rfl ?_
           refine SO_take (b := 3) (s := (nth r.pkgs i).name) (y := ⟨[(0, (.ptr 0 0)), (3, (.ptr 4 0)), (9, (.fp (pkgX (nth r.pkgs i)))), (69, (rowOf 12 pkgX r.pkgs)), (70, (.int .i64 ((r.pkgs.length : Int)))), (71, (.int .i64 ((i : Int)))), (77, (.ptr 0 3)), (80, (.str ((nth r.pkgs i).name))), (84, (.map 3)), (86, (.str ((nth r.pkgs i).name))), (92, (.int .i64 ((((keptsTo st r i).map keptX).length : Int)))), (87, (.own 6))], [(0, (.row [(.int .i64 st.kind), (.own 1), (.own 2), (.map 3)] 92)), (1, (.grow (st.repos.map repoNX) 41 4)), (2, (.grow ((keptsTo st r i).map keptX) 97 13)), (3, (.mm (namedG (keptsTo st r i)) (some ((nth r.pkgs i).name)) 3 1)), (4, (.row [(.str r.name), (.int .i64 r.prio), (.bool r.inst), (rowOf 12 pkgX r.pkgs)] 41)), (6, (.grow ((namedG (keptsTo st r i)) ((nth r.pkgs i).name)) 3 1))], 7⟩) (by kernel_rfl) (by kernel_rfl) (by kernel_rfl) Tryz.underlying90 Tryz.underlying9 (fun _ => by kernel_rfl) (by kernel_rfl) ?_
           refine SO_nil ⟨rfl, ?_⟩
           refine SG_S [0, 3, 9, 69, 70, 71, 77, 80, 87, 92] ?_
           exact SG_G m1_10
          ·refine SN_I (fuel := 4) 18 [] hold0 ?_
           refine SG_S [0, 3, 9, 69, 70, 71, 77, 80, 84, 86, 93] ?_
           exact SG_G m1_11
         refine SG_memo true 6 (lsD 21 [0, 1, 2, 3, 4, 5, 6, 7, 8, 9, 10, 11, 13, 14, 15]) ⟨[(0, (.ptr 0 0)), (3, (.ptr 4 0)), (9, (.fp (pkgX (nth r.pkgs i)))), (69, (rowOf 12 pkgX r.pkgs)), (70, (.int .i64 ((r.pkgs.length : Int)))), (71, (.int .i64 ((i : Int)))), (78, (.map 3)), (80, (.str ((nth r.pkgs i).name))), (84, (.map 3)), (86, (.str ((nth r.pkgs i).name))), (90, (.ptr 0 2))], [(0, (.row [(.int .i64 st.kind), (.own 1), (.own 2), (.map 3)] 92)), (1, (.grow (st.repos.map repoNX) 41 4)), (2, (.grow ((keptsTo st r i).map keptX) 97 13)), (3, (.mm (namedG (keptsTo st r i)) none 3 1)), (4, (.row [(.str r.name), (.int .i64 r.prio), (.bool r.inst), (rowOf 12 pkgX r.pkgs)] 41))], 6⟩ ?_ (fun m1_17 => ?_)
         ·refine SG_two 12 16 (by kernel_rfl) ?_ ?_
          ·refine SN_by (fuel := 5) 12 rfl ?_
           refine SO_take (b := 3) (s := (nth r.pkgs i).name) (y := ⟨[(0, (.ptr 0 0)), (3, (.ptr 4 0)), (9, (.fp (pkgX (nth r.pkgs i)))), (69, (rowOf 12 pkgX r.pkgs)), (70, (.int .i64 ((r.pkgs.length : Int)))), (71, (.int .i64 ((i : Int)))), (78, (.map 3)), (80, (.str ((nth r.pkgs i).name))), (84, (.map 3)), (86, (.str ((nth r.pkgs i).name))), (90, (.ptr 0 2)), (87, (.own 6))], [(0, (.row [(.int .i64 st.kind), (.own 1), (.own 2), (.map 3)] 92)), (1, (.grow (st.repos.map repoNX) 41 4)), (2, (.grow ((keptsTo st r i).map keptX) 97 13)), (3, (.mm (namedG (keptsTo st r i)) (some ((nth r.pkgs i).name)) 3 1)), (4, (.row [(.str r.name), (.int .i64 r.prio), (.bool r.inst), (rowOf 12 pkgX r.pkgs)] 41)), (6, (.grow ((namedG (keptsTo st r i)) ((nth r.pkgs i).name)) 3 1))], 7⟩) (by kernel_rfl) (by kernel_rfl) (by kernel_rfl) Tryz.underlying90 Tryz.underlying9 (fun _ => by kernel_rfl) (by kernel_rfl) ?_
           refine SO_nil ⟨rfl, ?_⟩
           refine SG_S [0, 3, 9, 69, 70, 71, 78, 80, 87, 90] ?_
           exact SG_G m1_12
          ·refine SN_I (fuel := 5) 16 [] hold0 ?_
           refine SG_S [0, 3, 9, 69, 70, 71, 78, 80, 84, 86, 91] ?_
           exact SG_G m1_13
         refine SG_memo true 6 (lsD 21 [0, 1, 2, 3, 4, 5, 6, 7, 8, 10, 11, 13, 14, 15, 16]) ⟨[(0, (.ptr 0 0)), (3, (.ptr 4 0)), (9, (.fp (pkgX (nth r.pkgs i)))), (69, (rowOf 12 pkgX r.pkgs)), (70, (.int .i64 ((r.pkgs.length : Int)))), (71, (.int .i64 ((i : Int)))), (78, (.map 3)), (80, (.str ((nth r.pkgs i).name))), (83, (.ptr 0 3)), (86, (.str ((nth r.pkgs i).name))), (91, (.own 2))], [(0, (.row [(.int .i64 st.kind), (.own 1), (.own 2), (.map 3)] 92)), (1, (.grow (st.repos.map repoNX) 41 4)), (2, (.grow ((keptsTo st r i).map keptX) 97 13)), (3, (.mm (namedG (keptsTo st r i)) none 3 1)), (4, (.row [(.str r.name), (.int .i64 r.prio), (.bool r.inst), (rowOf 12 pkgX r.pkgs)] 41))], 6⟩ ?_ (fun m1_18 => ?_)
         ·refine SG_two 9 17 (by kernel_rfl) ?_ ?_
          ·refine SN_I (fuel := 5) 9 [] hold0 ?_
           refine SG_S [0, 3, 9, 69, 70, 71, 78, 80, 84, 86, 91] ?_
           exact SG_G m1_13
          ·refine SN_I (fuel := 5) 17 [] hold0 ?_
           refine SG_S [0, 3, 9, 69, 70, 71, 78, 80, 83, 86, 92] ?_
           exact SG_G m1_14
         refine SG_memo true 6 (lsD 21 [0, 1, 2, 4, 5, 6, 7, 8, 9, 10, 11, 13, 14, 15, 16]) ⟨[(0, (.ptr 0 0)), (3, (.ptr 4 0)), (9, (.fp (pkgX (nth r.pkgs i)))), (69, (rowOf 12 pkgX r.pkgs)), (70, (.int .i64 ((r.pkgs.length : Int)))), (71, (.int .i64 ((i : Int)))), (77, (.ptr 0 3)), (80, (.str ((nth r.pkgs i).name))), (84, (.map 3)), (86, (.str ((nth r.pkgs i).name))), (91, (.own 2))], [(0, (.row [(.int .i64 st.kind), (.own 1), (.own 2), (.map 3)] 92)), (1, (.grow (st.repos.map repoNX) 41 4)), (2, (.grow ((keptsTo st r i).map keptX) 97 13)), (3, (.mm (namedG (keptsTo st r i)) none 3 1)), (4, (.row [(.str r.name), (.int .i64 r.prio), (.bool r.inst), (rowOf 12 pkgX r.pkgs)] 41))], 6⟩ ?_ (fun m1_19 => ?_)
         ·refine SG_three 3 12 17 (by kernel_rfl) ?_ ?_ ?_
          ·refine SN_I (fuel := 5) 3 [] hold0 ?_
           refine SG_S [0, 3, 9, 69, 70, 71, 78, 80, 84, 86, 91] ?_
           exact SG_G m1_13
          ·refine SN_by (fuel := 5) 12 rfl ?_
           refine SO_take (b := 3) (s := (nth r.pkgs i).name) (y := ⟨[(0, (.ptr 0 0)), (3, (.ptr 4 0)), (9, (.fp (pkgX (nth r.pkgs i)))), (69, (rowOf 12 pkgX r.pkgs)), (70, (.int .i64 ((r.pkgs.length : Int)))), (71, (.int .i64 ((i : Int)))), (77, (.ptr 0 3)), (80, (.str ((nth r.pkgs i).name))), (84, (.map 3)), (86, (.str ((nth r.pkgs i).name))), (91, (.own 2)), (87, (.own 6))], [(0, (.row [(.int .i64 st.kind), (.own 1), (.own 2), (.map 3)] 92)), (1, (.grow (st.repos.map repoNX) 41 4)), (2, (.grow ((keptsTo st r i).map keptX) 97 13)), (3, (.mm (namedG (keptsTo st r i)) (some ((nth r.pkgs i).name)) 3 1)), (4, (.row [(.str r.name), (.int .i64 r.prio), (.bool r.inst), (rowOf 12 pkgX r.pkgs)] 41)), (6, (.grow ((namedG (keptsTo st r i)) ((nth r.pkgs i).name)) 3 1))], 7⟩) (by kernel_rfl) (by kernel_rfl) (by kernel_rfl) Tryz.underlying90 Tryz.underlying9 (fun _ => by kernel_rfl) (by kernel_rfl) ?_
           refine SO_nil ⟨rfl, ?_⟩
           refine SG_S [0, 3, 9, 69, 70, 71, 77, 80, 87, 91] ?_
           exact SG_G m1_15
          ·refine SN_I (fuel := 5) 17 [] hold0 ?_
           refine SG_S [0, 3, 9, 69, 70, 71, 77, 80, 84, 86, 92] ?_
           exact SG_G m1_16
         refine SG_F (fuel := 8) [] [0, 1, 2, 4, 5, 6, 7, 8, 10, 11, 13, 14, 15] [0, 3, 9, 69, 70, 71, 77, 80, 83, 86, 90] hold0 ?_
         refine SG_three 3 9 16 (by kernel_rfl) ?_ ?_ ?_
         ·refine SN_I (fuel := 7) 3 [] hold0 ?_
          refine SG_S [0, 3, 9, 69, 70, 71, 78, 80, 83, 86, 90] ?_
          refine SG_two 9 16 (by kernel_rfl) ?_ ?_
          ·refine SN_I (fuel := 6) 9 [] hold0 ?_
           refine SG_S [0, 3, 9, 69, 70, 71, 78, 80, 84, 86, 90] ?_
           exact SG_G m1_17
          ·refine SN_I (fuel := 6) 16 [] hold0 ?_
           refine SG_S [0, 3, 9, 69, 70, 71, 78, 80, 83, 86, 91] ?_
           exact SG_G m1_18
         ·refine SN_I (fuel := 7) 9 [] hold0 ?_
          refine SG_S [0, 3, 9, 69, 70, 71, 77, 80, 84, 86, 90] ?_
          refine SG_three 3 12 16 (by kernel_rfl) ?_ ?_ ?_
          ·refine SN_I (fuel := 6) 3 [] hold0 ?_
           refine SG_S [0, 3, 9, 69, 70, 71, 78, 80, 84, 86, 90] ?_
           exact SG_G m1_17
          ·refine SN_by (fuel := 6) 12 rfl ?_
           refine SO_take (b := 3) (s := (nth r.pkgs i).name) (y := ⟨[(0, (.ptr 0 0)), (3, (.ptr 4 0)), (9, (.fp (pkgX (nth r.pkgs i)))), (69, (rowOf 12 pkgX r.pkgs)), (70, (.int .i64 ((r.pkgs.length : Int)))), (71, (.int .i64 ((i : Int)))), (77, (.ptr 0 3)), (80, (.str ((nth r.pkgs i).name))), (84, (.map 3)), (86, (.str ((nth r.pkgs i).name))), (90, (.ptr 0 2)), (87, (.own 6))], [(0, (.row [(.int .i64 st.kind), (.own 1), (.own 2), (.map 3)] 92)), (1, (.grow (st.repos.map repoNX) 41 4)), (2, (.grow ((keptsTo st r i).map keptX) 97 13)), (3, (.mm (namedG (keptsTo st r i)) (some ((nth r.pkgs i).name)) 3 1)), (4, (.row [(.str r.name), (.int .i64 r.prio), (.bool r.inst), (rowOf 12 pkgX r.pkgs)] 41)), (6, (.grow ((namedG (keptsTo st r i)) ((nth r.pkgs i).name)) 3 1))], 7⟩) (by kernel_rfl) (by kernel_rfl) (by kernel_rfl) Tryz.underlying90 Tryz.underlying9 (fun _ => by kernel_rfl) (by kernel_rfl) ?_
           refine SO_nil ⟨rfl, ?_⟩
           refine SG_S [0, 3, 9, 69, 70, 71, 77, 80, 87, 90] ?_
           refine SG_two 3 16 (by kernel_rfl) ?_ ?_
           ·refine SN_I (fuel := 5) 3 [] hold0 ?_
            refine SG_S [0, 3, 9, 69, 70, 71, 78, 80, 87, 90] ?_
            exact SG_G m1_12
           ·refine SN_I (fuel := 5) 16 [] hold0 ?_
            refine SG_S [0, 3, 9, 69, 70, 71, 77, 80, 87, 91] ?_
            exact SG_G m1_15
          ·refine SN_I (fuel := 6) 16 [] hold0 ?_
           refine SG_S [0, 3, 9, 69, 70, 71, 77, 80, 84, 86, 91] ?_
           exact SG_G m1_19
         ·refine SN_I (fuel := 7) 16 [] hold0 ?_
          refine SG_S [0, 3, 9, 69, 70, 71, 77, 80, 83, 86, 91] ?_
          refine SG_three 3 9 17 (by kernel_rfl) ?_ ?_ ?_
          ·refine SN_I (fuel := 6) 3 [] hold0 ?_
           refine SG_S [0, 3, 9, 69, 70, 71, 78, 80, 83, 86, 91] ?_
           exact SG_G m1_18
          ·refine SN_I (fuel := 6) 9 [] hold0 ?_
           refine SG_S [0, 3, 9, 69, 70, 71, 77, 80, 84, 86, 91] ?_
           exact SG_G m1_19
          ·refine SN_I (fuel := 6) 17 [] hold0 ?_
           refine SG_S [0, 3, 9, 69, 70, 71, 77, 80, 83, 86, 92] ?_
           refine SG_three 3 9 18 (by kernel_rfl) ?_ ?_ ?_
           ·refine SN_I (fuel := 5) 3 [] hold0 ?_
            refine SG_S [0, 3, 9, 69, 70, 71, 78, 80, 83, 86, 92] ?_
            exact SG_G m1_14
           ·refine SN_I (fuel := 5) 9 [] hold0 ?_
            refine SG_S [0, 3, 9, 69, 70, 71, 77, 80, 84, 86, 92] ?_
            exact SG_G m1_16
           ·refine SN_I (fuel := 5) 18 [] hold0 ?_
            refine SG_S [0, 3, 9, 69, 70, 71, 77, 80, 83, 86, 93] ?_
            refine SG_two 3 9 (by kernel_rfl) ?_ ?_
            ·refine SN_I (fuel := 4) 3 [] hold0 ?_
             refine SG_S [0, 3, 9, 69, 70, 71, 78, 80, 83, 86, 93] ?_
             exact SG_G m1_9
            ·refine SN_I (fuel := 4) 9 [] hold0 ?_
             refine SG_S [0, 3, 9, 69, 70, 71, 77, 80, 84, 86, 93] ?_
             exact SG_G m1_11
        ·rintro y3 rfl
         refine SW_DA [] [0, 3, 69, 70, 71] [] (hk 6 en_51 (copied_any (nth r.pkgs i) (by have := (nth r.pkgs i).sizes; have := hp i (by omega); omega) (by have := (nth r.pkgs i).sizes; have := files_len (nth r.pkgs i).files; have := hp i (by omega); omega)) <| hk0) v0 (cc 14 (p := ((((keptsTo st r i).map keptX).length + 1) * 264 ≤ 140737488355328)) (by first | omega | (simp; omega) | (simp; done) | (intros; simp_all; omega) | (intros; simp_all; done)) <| c0) ?_
         refine ⟨by kernel_rfl, (Eq.trans (b := (⟨[(0, (.ptr 0 0)), (3, (.ptr 4 0)), (69, (rowOf 12 pkgX r.pkgs)), (70, (.int .i64 ((r.pkgs.length : Int)))), (71, (.int .i64 ((i : Int))))], [(0, (.row [(.int .i64 st.kind), (.own 1), (.own 2), (.map 3)] 92)), (1, (.grow (st.repos.map repoNX) 41 4)), (2, (.grow (((keptsTo st r i).map keptX) ++ ([(.agg [(.str ((nth r.pkgs i).name)), (.str ((nth r.pkgs i).evr)), (.str ((nth r.pkgs i).arch)), (.str ((nth r.pkgs i).vendor)), (rowOf 5 depX ((nth r.pkgs i).provides)), (rowOf 5 depX ((nth r.pkgs i).requires)), (rowOf 5 depX ((nth r.pkgs i).pre)), (rowOf 5 depX ((nth r.pkgs i).conflicts)), (rowOf 5 depX ((nth r.pkgs i).obsoletes)), (rowOf 5 depX ((nth r.pkgs i).recommends)), (rowOf 5 depX ((nth r.pkgs i).supplements)), (strs ((nth r.pkgs i).files)), (.int .i64 (((st.repos.map repoNX).length : Int)))])] : List AV)) 97 13)), (3, (.mm (namedG (keptsTo st r i ++ [(nth r.pkgs i, (st.repos.length : Int))])) none 3 1)), (4, (.row [(.str r.name), (.int .i64 r.prio), (.bool r.inst), (rowOf 12 pkgX r.pkgs)] 41))], 5⟩ : St)) (by kernel_rfl) (by rw [show (((keptsTo st r i).map keptX) ++ ([(.agg [(.str ((nth r.pkgs i).name)), (.str ((nth r.pkgs i).evr)), (.str ((nth r.pkgs i).arch)), (.str ((nth r.pkgs i).vendor)), (rowOf 5 depX ((nth r.pkgs i).provides)), (rowOf 5 depX ((nth r.pkgs i).requires)), (rowOf 5 depX ((nth r.pkgs i).pre)), (rowOf 5 depX ((nth r.pkgs i).conflicts)), (rowOf 5 depX ((nth r.pkgs i).obsoletes)), (rowOf 5 depX ((nth r.pkgs i).recommends)), (rowOf 5 depX ((nth r.pkgs i).supplements)), (strs ((nth r.pkgs i).files)), (.int .i64 (((st.repos.map repoNX).length : Int)))])] : List AV)) = (keptsTo st r i ++ [(nth r.pkgs i, (st.repos.length : Int))]).map keptX from by rw [List.map_append, List.length_map]; rfl] <;> kernel_rfl))⟩
       ·rintro y2 rfl
        refine SW_reg ?_
        refine SO_HA 0 [] [0, 3, 69, 70, 71] [] hk0 v0 (cc 0 (p := (-9223372036854775808 ≤ (i : Int) + 1 ∧ (i : Int) + 1 ≤ 9223372036854775807)) (by first | omega | (simp; omega) | (simp; done) | (intros; simp_all; omega) | (intros; simp_all; done)) <| c0) ?_
        refine ⟨by kernel_rfl, _, ?_, i + 1, ?_, (Eq.trans (b := (⟨[(0, (.ptr 0 0)), (3, (.ptr 4 0)), (69, (rowOf 12 pkgX r.pkgs)), (70, (.int .i64 ((r.pkgs.length : Int)))), (71, (.int .i64 ((i : Int) + 1)))], [(0, (.row [(.int .i64 st.kind), (.own 1), (.own 2), (.map 3)] 92)), (1, (.grow (st.repos.map repoNX) 41 4)), (2, (.grow ((keptsTo st r i ++ [(nth r.pkgs i, (st.repos.length : Int))]).map keptX) 97 13)), (3, (.mm (namedG (keptsTo st r i ++ [(nth r.pkgs i, (st.repos.length : Int))])) none 3 1)), (4, (.row [(.str r.name), (.int .i64 r.prio), (.bool r.inst), (rowOf 12 pkgX r.pkgs)] 41))], 5⟩ : St)) (by kernel_rfl) (by rw [← keptsTo_next (by omega)] <;> kernel_rfl)), rfl⟩
        ·omega
        ·omega
      ·refine SW_exit ?_
       refine SW_P [] [0, 3] ?_
       refine SW_C (fun y => y = ⟨[], [(0, (.row [(.int .i64 st.kind), (.own 1), (.own 2), (.map 3)] 92)), (1, (.grow ((st.repos ++ [r]).map repoNX) 41 4)), (2, (.grow ((keptsTo st r i).map keptX) 97 13)), (3, (.mm (namedG (keptsTo st r i)) none 3 1)), (4, (.row [(.str r.name), (.int .i64 r.prio), (.bool r.inst), .nils] 41))], 5⟩) [] 5 (by omega) ?_ ?_
       ·refine SW_DA [] [] [] hk0 v0 (cc 7 (p := (((st.repos.map repoNX).length + 1) * 56 ≤ 140737488355328)) (by first | omega | (simp; omega) | (simp; done) | (intros; simp_all; omega) | (intros; simp_all; done)) <| c0) ?_
        refine ⟨by kernel_rfl, (Eq.trans (b := (⟨[], [(0, (.row [(.int .i64 st.kind), (.own 1), (.own 2), (.map 3)] 92)), (1, (.grow ((st.repos.map repoNX) ++ ([(.agg [(.str r.name), (.int .i64 r.prio), (.bool r.inst), .nils])] : List AV)) 41 4)), (2, (.grow ((keptsTo st r i).map keptX) 97 13)), (3, (.mm (namedG (keptsTo st r i)) none 3 1)), (4, (.row [(.str r.name), (.int .i64 r.prio), (.bool r.inst), .nils] 41))], 5⟩ : St)) (by kernel_rfl) (by rw [show ((st.repos.map repoNX) ++ ([(.agg [(.str r.name), (.int .i64 r.prio), (.bool r.inst), .nils])] : List AV)) = (st.repos ++ [r]).map repoNX from by rw [List.map_append]; rfl] <;> kernel_rfl))⟩
       ·rintro y4 rfl
        refine SW_P [] [4] ?_
        refine SW_ret ?_
        refine retS_mk (.inl rfl) (al := [(.int .i64 0)]) (by kernel_rfl) ?_ ((by kernel_rfl : cutH 4 _ = some [(0, (.row [(.int .i64 st.kind), (.own 1), (.own 2), (.map 3)] 92)), (1, (.grow ((st.repos ++ [r]).map repoNX) 41 4)), (2, (.grow ((keptsTo st r i).map keptX) 97 13)), (3, (.mm (namedG (keptsTo st r i)) none 3 1))]).trans ?_)
        all_goals have hE : addE st r = 0 := by unfold addE; rw [if_neg (by simp only [not_or]; simp_all), if_neg (by rintro ⟨h1, h2⟩; rw [h1, h2] at c2; simp at c2), if_neg (by omega)]; exact firstE_no fun j hj => f1_2 j (by omega)
        ·rw [hE]; rfl
        ·unfold addS; rw [if_pos hE, show i = r.pkgs.length from by omega]
end Sv
end Go.Proofs.YtlfjokcbkopfeaaGreatDoor
end
section
namespace Go.Proofs.YtlfjokcbkopfeaaGreatDoor
open Go Go.RowKit
namespace Sv
attribute [local irreducible] SW SO holds
theorem en_41 : Enters Tryz.prog 41 := enters_of Tryz.func41 (by kernel_rfl) rfl
noncomputable def atX (p : Int × Int) : AV := .agg [.int .i64 p.1, .int .i64 p.2]
def atTo (pl : List (Int × Int)) (st : PoolT) (r : RepoT) (i : Nat) : List (Int × Int) := pl ++ (List.range i).map fun (k : Nat) => ((st.repos.length : Int), (k : Int))
def addA (pl : List (Int × Int)) (st : PoolT) (r : RepoT) : List (Int × Int) := if addE st r = 0 then atTo pl st r r.pkgs.length else pl
theorem addA_no {pl : List (Int × Int)} {st : PoolT} {r : RepoT} {e : Int} (h : addE st r = e) (he : e ≠ 0) : addA pl st r = pl := by unfold addA; rw [if_neg (by rw [h]; exact he)]
theorem atTo_next {pl : List (Int × Int)} {st : PoolT} {r : RepoT} {i : Nat} : atTo pl st r (i + 1) = atTo pl st r i ++ [((st.repos.length : Int), (i : Int))] := by
 unfold atTo
 rw [List.range_succ, List.map_append, List.append_assoc]; rfl
theorem atTo_len {pl : List (Int × Int)} {st : PoolT} {r : RepoT} {i : Nat} : (atTo pl st r i).length = pl.length + i := by unfold atTo; simp
theorem any_at {α : Type} [Inhabited α] {p : α → Bool} {l : List α} {i : Nat} (hi : i < l.length) (h : p (nth l i) = true) : l.any p = true := by
 rw [List.any_eq_true]
 exact ⟨nth l i, by simp [nth, hi], h⟩
theorem any_no {α : Type} [Inhabited α] {p : α → Bool} {l : List α} (h : ∀ i, i < l.length → p (nth l i) = false) : l.any p = false := by
 rw [List.any_eq_false]
 intro x hx
 obtain ⟨j, hj, rfl⟩ := List.getElem_of_mem hx
 have := h j hj
 simpa [nth, hj] using this
set_option maxHeartbeats 1000000 in
set_option maxRecDepth 100000 in
theorem refAdd_ok (st : PoolT) (pl : List (Int × Int)) (r : RepoT) (hr : st.repos.length ≤ 8) (ha : st.all.length ≤ 200) (hpa : pl.length = st.all.length) (hn : r.name.length ≤ 4194304) (hpl : r.pkgs.length ≤ 4194304) (hp : ∀ i, i < r.pkgs.length → (nth r.pkgs i).size ≤ 4194304) :
  CallS Tryz.prog 41 [(.ptr 0 0), (.agg [(.str r.name), (.int .i64 r.prio), (.bool r.inst), (rowOf 12 pkgX r.pkgs)])] [(0, (.row [(.int .i64 st.kind), (.own 1), (.own 2)] 107)), (1, (.grow (st.repos.map repoX) 41 4)), (2, (.grow (pl.map atX) 128 2))] 3 (.int .i64 (addE st r)) [(0, (.row [(.int .i64 ((addS st r).kind)), (.own 1), (.own 2)] 107)), (1, (.grow ((addS st r).repos.map repoX) 41 4)), (2, (.grow ((addA pl st r).map atX) 128 2))] := by
 have hml : (st.repos.map repoX).length = st.repos.length := List.length_map _
 have hma : (pl.map atX).length = pl.length := List.length_map _
 refine CallS_intro [.tmp 4] Tryz.func41 rfl Tryz.ntmps41 rfl rfl (by kernel_rfl) (by kernel_rfl) (by kernel_rfl) (fun B F hF => ?_)
 refine SW_H [] [0, 3] [(1, 3)] hk0 v0 c0 ?_
 refine SW_H [] [0, 3, 5] [] (hk 2 en_91 (refNameV r.name (by omega)) <| hk0) v0 c0 ?_
 refine SW_seq ?_
 refine SW_P [] [0, 3, 15] ?_
 refine SW_cond (q := !(nameB r.name)) (by kernel_rfl) (fun c1 => ?_) (fun c1 => ?_)
 ·try simp only [Bool.and_eq_true, Bool.or_eq_true, Bool.and_eq_false_iff, Bool.or_eq_false_iff, Bool.not_eq_true', Bool.not_eq_false', decide_eq_true_eq, decide_eq_false_iff_not] at c1
  refine SW_P [] [4] ?_
  refine SW_ret ?_
  refine retS_mk (.inl rfl) (al := [(.int .i64 66)]) (by kernel_rfl) ?_ ((by kernel_rfl : cutH 3 _ = some [(0, (.row [(.int .i64 st.kind), (.own 1), (.own 2)] 107)), (1, (.grow (st.repos.map repoX) 41 4)), (2, (.grow (pl.map atX) 128 2))]).trans ?_)
  all_goals have hE : addE st r = 66 := by unfold addE; rw [if_pos (.inl c1)]
  ·rw [hE]; rfl
  ·rw [addS_no hE (by decide), addA_no hE (by decide)]
 ·try simp only [Bool.and_eq_true, Bool.or_eq_true, Bool.and_eq_false_iff, Bool.or_eq_false_iff, Bool.not_eq_true', Bool.not_eq_false', decide_eq_true_eq, decide_eq_false_iff_not] at c1
  refine SW_skip ?_
  refine SW_seq ?_
  refine SW_P [] [0, 3, 6] ?_
  refine SW_block ?_
  refine SW_L (fun g y => ∃ (i : Nat), i ≤ st.repos.length ∧ (∀ j, j < i → ¬ (nth st.repos j).name = r.name) ∧ y = ⟨[(0, (.ptr 0 0)), (3, (.fp (.agg [(.str r.name), (.int .i64 r.prio), (.bool r.inst), (rowOf 12 pkgX r.pkgs)]))), (6, (.int .i64 ((i : Int))))], [(0, (.row [(.int .i64 st.kind), (.own 1), (.own 2)] 107)), (1, (.grow (st.repos.map repoX) 41 4)), (2, (.grow (pl.map atX) 128 2))], 4⟩ ∧ g = st.repos.length - i) [0, 3, 6] 4 _ (by omega) ⟨0, (by omega), (by exact fun j hj => by omega), (by kernel_rfl), rfl⟩ ?_
  rintro g1 y1 ⟨i, f1_1, f1_2, rfl, rfl⟩
  refine SW_seq ?_
  refine SW_P [] [0, 3, 6, 22] ?_
  refine SW_if (p := (i : Int) < ((st.repos.map repoX).length : Int)) (by kernel_rfl) (fun c2 => ?_) (fun c2 => ?_)
  ·refine SW_skip ?_
   refine SW_seq ?_
   refine SW_block ?_
   refine SW_seq ?_
   refine SW_draw (by kernel_rfl) (fun F1 hF1 => ?_)
   refine SG_F (fuel := 5) [] [0, 1, 2, 4, 8, 9] [0, 3, 6, 27, 29, 34] hold0 ?_
   refine SG_I (fuel := 4) 3 [] hold0 ?_
   refine SG_one (fuel := 3) 5 (by kernel_rfl) ?_
   refine SN_by (fuel := 3) 5 rfl ?_
   refine SO_opidx (b := 1) (i := i) (es := st.repos.map repoX) (e := 41) (sz := 4) (k := .i64) (s' := [(0, (.ptr 0 0)), (3, (.fp (.agg [(.str r.name), (.int .i64 r.prio), (.bool r.inst), (rowOf 12 pkgX r.pkgs)]))), (6, (.int .i64 ((i : Int)))), (27, (.ptr 0 1)), (29, (.int .i64 ((i : Int)))), (34, (.str r.name)), (28, (.own 1)), (30, (.op 1 (i * 4)))]) (by kernel_rfl) (by kernel_rfl) (by kernel_rfl) (by kernel_rfl) (by kernel_rfl) (by kernel_rfl) (by (rw [List.length_map]; omega)) (by kernel_rfl) ?_
   refine SO_nil ⟨rfl, ?_⟩
   refine SG_one (fuel := 2) 6 (by kernel_rfl) ?_
   refine SN_by (fuel := 2) 6 rfl ?_
   refine SO_opfld (b := 1) (o := i * 4) (off := 0) (s' := [(0, (.ptr 0 0)), (3, (.fp (.agg [(.str r.name), (.int .i64 r.prio), (.bool r.inst), (rowOf 12 pkgX r.pkgs)]))), (6, (.int .i64 ((i : Int)))), (27, (.ptr 0 1)), (29, (.int .i64 ((i : Int)))), (34, (.str r.name)), (28, (.own 1)), (30, (.op 1 (i * 4))), (31, (.op 1 (i * 4 + 0)))]) (by kernel_rfl) (by kernel_rfl) (by kernel_rfl) (by kernel_rfl) ?_
   refine SO_nil ⟨rfl, ?_⟩
   refine SG_one (fuel := 1) 7 (by kernel_rfl) ?_
   refine SN_by (fuel := 1) 7 rfl ?_
   refine SO_opload (b := 1) (e := 41) (sz := 4) (es := st.repos.map repoX) (o := i * 4 + 0) (i := i) (j := 0) (a := (.agg [(.str ((nth st.repos i).name)), (.int .i64 ((nth st.repos i).prio)), (.bool ((nth st.repos i).inst)), (rowOf 12 pkgX ((nth st.repos i).pkgs))])) (r := (.str ((nth st.repos i).name))) (s' := [(0, (.ptr 0 0)), (3, (.fp (.agg [(.str r.name), (.int .i64 r.prio), (.bool r.inst), (rowOf 12 pkgX r.pkgs)]))), (6, (.int .i64 ((i : Int)))), (27, (.ptr 0 1)), (29, (.int .i64 ((i : Int)))), (34, (.str r.name)), (28, (.own 1)), (30, (.op 1 (i * 4))), (31, (.op 1 (i * 4 + 0))), (32, (.str ((nth st.repos i).name)))]) (by kernel_rfl) (by kernel_rfl) rfl (by kernel_rfl) (get_map (l := st.repos) repoX (by omega)) (by kernel_rfl) (by kernel_rfl) ?_
   refine SO_nil ⟨rfl, ?_⟩
   refine SG_F (fuel := 0) [] [10] [0, 3, 6, 35] hold0 ?_
   refine SG_S [0, 3, 6, 35] ?_
   refine SG_done (by kernel_rfl) ?_
   refine SW_if (p := (nth st.repos i).name = r.name) (by kernel_rfl) (fun c3 => ?_) (fun c3 => ?_)
   ·refine SW_P [] [4] ?_
    refine SW_ret ?_
    refine retS_mk (.inl rfl) (al := [(.int .i64 66)]) (by kernel_rfl) ?_ ((by kernel_rfl : cutH 3 _ = some [(0, (.row [(.int .i64 st.kind), (.own 1), (.own 2)] 107)), (1, (.grow (st.repos.map repoX) 41 4)), (2, (.grow (pl.map atX) 128 2))]).trans ?_)
    all_goals have hE : addE st r = 66 := by unfold addE; rw [if_pos (.inr (any_at (i := i) (by omega) (decide_eq_true (by assumption))))]
    ·rw [hE]; rfl
    ·rw [addS_no hE (by decide), addA_no hE (by decide)]
   ·refine SW_skip ?_
    refine SW_reg ?_
    refine SO_HA 0 [] [0, 3, 6] [] hk0 v0 (cc 1 (p := (-9223372036854775808 ≤ (i : Int) + 1 ∧ (i : Int) + 1 ≤ 9223372036854775807)) (by first | omega | (simp; omega) | (simp; done) | (intros; simp_all; omega) | (intros; simp_all; done)) <| c0) ?_
    refine ⟨by kernel_rfl, _, ?_, i + 1, ?_, ?_, (by kernel_rfl), rfl⟩
    ·omega
    ·omega
    ·intro j hj
     by_cases h : j = i
     ·subst h; assumption
     ·exact f1_2 j (by omega)
  ·refine SW_exit ?_
   refine SW_seq ?_
   refine SW_P [] [0, 3, 7] ?_
   refine SW_block ?_
   refine SW_L (fun g y => ∃ (i : Nat), i ≤ st.repos.length ∧ (∀ j, j < i → (r.inst && (nth st.repos j).inst) = false) ∧ y = ⟨[(0, (.ptr 0 0)), (3, (.fp (.agg [(.str r.name), (.int .i64 r.prio), (.bool r.inst), (rowOf 12 pkgX r.pkgs)]))), (7, (.int .i64 ((i : Int))))], [(0, (.row [(.int .i64 st.kind), (.own 1), (.own 2)] 107)), (1, (.grow (st.repos.map repoX) 41 4)), (2, (.grow (pl.map atX) 128 2))], 4⟩ ∧ g = st.repos.length - i) [0, 3, 7] 4 _ (by omega) ⟨0, (by omega), (by exact fun j hj => by omega), (by kernel_rfl), rfl⟩ ?_
   rintro g2 y2 ⟨i, f2_1, f2_2, rfl, rfl⟩
   refine SW_seq ?_
   refine SW_P [] [0, 3, 7, 42] ?_
   refine SW_if (p := (i : Int) < ((st.repos.map repoX).length : Int)) (by kernel_rfl) (fun c4 => ?_) (fun c4 => ?_)
   ·refine SW_skip ?_
    refine SW_seq ?_
    refine SW_block ?_
    refine SW_seq ?_
    refine SW_reg ?_
    refine SO_H 3 0 [] [0, 3, 7, 47] [] hk0 v0 c0 ?_
    refine bool_two r.inst (fun c5 => ?_) (fun c5 => ?_)
    ·refine SO_conv 47 (a := .bool r.inst) (.bool true) (by kernel_rfl) (Imp.of_eq (by rw [c5])) ?_
     refine SO_H 5 3 [] [0, 3, 7, 47, 51, 52] [] hk0 v0 c0 ?_
     refine SO_opidx (b := 1) (i := i) (es := st.repos.map repoX) (e := 41) (sz := 4) (k := .i64) (s' := [(0, (.ptr 0 0)), (3, (.fp (.agg [(.str r.name), (.int .i64 r.prio), (.bool r.inst), (rowOf 12 pkgX r.pkgs)]))), (7, (.int .i64 ((i : Int)))), (47, (.bool true)), (51, (.own 1)), (52, (.int .i64 ((i : Int)))), (53, (.op 1 (i * 4)))]) (by kernel_rfl) (by kernel_rfl) (by kernel_rfl) (by kernel_rfl) (by kernel_rfl) (by kernel_rfl) (by (rw [List.length_map]; omega)) (by kernel_rfl) ?_
     refine SO_opfld (b := 1) (o := i * 4) (off := 2) (s' := [(0, (.ptr 0 0)), (3, (.fp (.agg [(.str r.name), (.int .i64 r.prio), (.bool r.inst), (rowOf 12 pkgX r.pkgs)]))), (7, (.int .i64 ((i : Int)))), (47, (.bool true)), (51, (.own 1)), (52, (.int .i64 ((i : Int)))), (53, (.op 1 (i * 4))), (54, (.op 1 (i * 4 + 2)))]) (by kernel_rfl) (by kernel_rfl) (by kernel_rfl) (by kernel_rfl) ?_
     refine SO_opload (b := 1) (e := 41) (sz := 4) (es := st.repos.map repoX) (o := i * 4 + 2) (i := i) (j := 2) (a := (.agg [(.str ((nth st.repos i).name)), (.int .i64 ((nth st.repos i).prio)), (.bool ((nth st.repos i).inst)), (rowOf 12 pkgX ((nth st.repos i).pkgs))])) (r := (.bool ((nth st.repos i).inst))) (s' := [(0, (.ptr 0 0)), (3, (.fp (.agg [(.str r.name), (.int .i64 r.prio), (.bool r.inst), (rowOf 12 pkgX r.pkgs)]))), (7, (.int .i64 ((i : Int)))), (47, (.bool true)), (51, (.own 1)), (52, (.int .i64 ((i : Int)))), (53, (.op 1 (i * 4))), (54, (.op 1 (i * 4 + 2))), (55, (.bool ((nth st.repos i).inst)))]) (by kernel_rfl) (by kernel_rfl) rfl (by kernel_rfl) (get_map (l := st.repos) repoX (by omega)) (by kernel_rfl) (by kernel_rfl) ?_
     refine SO_HA 11 [] [0, 3, 7, 56] [] hk0 v0 c0 ?_
     refine SW_cond (q := (nth st.repos i).inst) (by kernel_rfl) (fun c6 => ?_) (fun c6 => ?_)
     ·try simp only [Bool.and_eq_true, Bool.or_eq_true, Bool.and_eq_false_iff, Bool.or_eq_false_iff, Bool.not_eq_true', Bool.not_eq_false', decide_eq_true_eq, decide_eq_false_iff_not] at c6
      refine SW_P [] [4] ?_
      refine SW_ret ?_
      refine retS_mk (.inl rfl) (al := [(.int .i64 67)]) (by kernel_rfl) ?_ ((by kernel_rfl : cutH 3 _ = some [(0, (.row [(.int .i64 st.kind), (.own 1), (.own 2)] 107)), (1, (.grow (st.repos.map repoX) 41 4)), (2, (.grow (pl.map atX) 128 2))]).trans ?_)
      all_goals have hN := any_no (l := st.repos) (p := fun o => decide (o.name = r.name)) (fun j hj => by simpa using f1_2 j (by omega))
      all_goals have hA : ¬ (nameB r.name = false ∨ st.repos.any (fun o => decide (o.name = r.name)) = true) := fun h => h.elim (fun h => by rw [c1] at h; cases h) (fun h => by rw [hN] at h; cases h)
      all_goals have hE : addE st r = 67 := by unfold addE; rw [if_neg hA, if_pos ⟨by assumption, any_at (i := i) (by omega) (by assumption)⟩]
      ·rw [hE]; rfl
      ·rw [addS_no hE (by decide), addA_no hE (by decide)]
     ·try simp only [Bool.and_eq_true, Bool.or_eq_true, Bool.and_eq_false_iff, Bool.or_eq_false_iff, Bool.not_eq_true', Bool.not_eq_false', decide_eq_true_eq, decide_eq_false_iff_not] at c6
      refine SW_skip ?_
      refine SW_reg ?_
      refine SO_HA 0 [] [0, 3, 7] [] hk0 v0 (cc 1 (p := (-9223372036854775808 ≤ (i : Int) + 1 ∧ (i : Int) + 1 ≤ 9223372036854775807)) (by first | omega | (simp; omega) | (simp; done) | (intros; simp_all; omega) | (intros; simp_all; done)) <| c0) ?_
      refine ⟨by kernel_rfl, _, ?_, i + 1, ?_, ?_, (by kernel_rfl), rfl⟩
      ·omega
      ·omega
      ·intro j hj
       by_cases h : j = i
       ·subst h; simp_all
       ·exact f2_2 j (by omega)
    ·refine SO_conv 47 (a := .bool r.inst) (.bool false) (by kernel_rfl) (Imp.of_eq (by rw [c5])) ?_
     refine SO_HA 3 [] [0, 3, 7, 56] [] hk0 v0 c0 ?_
     refine SW_false (by kernel_rfl) ?_
     refine SW_skip ?_
     refine SW_reg ?_
     refine SO_HA 0 [] [0, 3, 7] [] hk0 v0 (cc 1 (p := (-9223372036854775808 ≤ (i : Int) + 1 ∧ (i : Int) + 1 ≤ 9223372036854775807)) (by first | omega | (simp; omega) | (simp; done) | (intros; simp_all; omega) | (intros; simp_all; done)) <| c0) ?_
     refine ⟨by kernel_rfl, _, ?_, i + 1, ?_, ?_, (by kernel_rfl), rfl⟩
     ·omega
     ·omega
     ·intro j hj
      by_cases h : j = i
      ·subst h; simp_all
      ·exact f2_2 j (by omega)
   ·refine SW_exit ?_
    refine SW_seq ?_
    refine SW_C (fun y => y = ⟨[(0, (.ptr 0 0)), (3, (.fp (.agg [(.str r.name), (.int .i64 r.prio), (.bool r.inst), (rowOf 12 pkgX r.pkgs)]))), (74, (.bool (decide ((8 : Int) ≤ ((st.repos.map repoX).length : Int)) || decide ((200 : Int) < ((pl.map atX).length : Int) + (r.pkgs.length : Int)))))], [(0, (.row [(.int .i64 st.kind), (.own 1), (.own 2)] 107)), (1, (.grow (st.repos.map repoX) 41 4)), (2, (.grow (pl.map atX) 128 2))], 4⟩) [0, 3, 74] 4 (by omega) ?_ ?_
    ·refine SW_DA (CS := [(8, ((!(decide (8 ≤ ((st.repos.map repoX).length : Int)))) = true → (!(decide (8 ≤ ((st.repos.map repoX).length : Int)))) = true)), (9, ((!(decide (8 ≤ ((st.repos.map repoX).length : Int)))) = true → (!(decide (8 ≤ ((st.repos.map repoX).length : Int)))) = true)), (10, ((!(decide (8 ≤ ((st.repos.map repoX).length : Int)))) = true → (!(decide (8 ≤ ((st.repos.map repoX).length : Int)))) = true)), (11, ((!(decide (8 ≤ ((st.repos.map repoX).length : Int)))) = true → (!(decide (8 ≤ ((st.repos.map repoX).length : Int)))) = true)), (13, ((!(decide (8 ≤ ((st.repos.map repoX).length : Int)))) = true → (!(decide (8 ≤ ((st.repos.map repoX).length : Int)))) = true)), (14, ((!(decide (8 ≤ ((st.repos.map repoX).length : Int)))) = true → (!(decide (8 ≤ ((st.repos.map repoX).length : Int)))) = true)), (15, ((!(decide (8 ≤ ((st.repos.map repoX).length : Int)))) = true → ((!(decide (8 ≤ ((st.repos.map repoX).length : Int)))) = true ∧ (!(decide (8 ≤ ((st.repos.map repoX).length : Int)))) = true) ∧ (-9223372036854775808 ≤ ((pl.map atX).length : Int) + (r.pkgs.length : Int) ∧ ((pl.map atX).length : Int) + (r.pkgs.length : Int) ≤ 9223372036854775807))), (16, ((!(decide (8 ≤ ((st.repos.map repoX).length : Int)))) = true → (!(decide (8 ≤ ((st.repos.map repoX).length : Int)))) = true)), (17, ((decide (8 ≤ ((st.repos.map repoX).length : Int))) = false → (!(decide (8 ≤ ((st.repos.map repoX).length : Int)))) = true))]) [64, 65, 66, 67, 68, 69, 70, 71, 72, 73] [0, 3, 74] [] hk0 v0 (by refine cc _ ?_ <| cc _ ?_ <| cc _ ?_ <| cc _ ?_ <| cc _ ?_ <| cc _ ?_ <| cc _ ?_ <| cc _ ?_ <| cc _ ?_ c0 <;> first | omega | (simp; omega) | (simp; done) | (intros; simp_all; omega) | (intros; simp_all; done)) ?_
     refine ⟨by kernel_rfl, (by kernel_rfl)⟩
    ·rintro y1 rfl
     refine SW_cond (q := decide ((8 : Int) ≤ ((st.repos.map repoX).length : Int)) || decide ((200 : Int) < ((pl.map atX).length : Int) + (r.pkgs.length : Int))) (by kernel_rfl) (fun c7 => ?_) (fun c7 => ?_)
     ·try simp only [Bool.and_eq_true, Bool.or_eq_true, Bool.and_eq_false_iff, Bool.or_eq_false_iff, Bool.not_eq_true', Bool.not_eq_false', decide_eq_true_eq, decide_eq_false_iff_not] at c7
      refine SW_P [] [4] ?_
      refine SW_ret ?_
      refine retS_mk (.inl rfl) (al := [(.int .i64 68)]) (by kernel_rfl) ?_ ((by kernel_rfl : cutH 3 _ = some [(0, (.row [(.int .i64 st.kind), (.own 1), (.own 2)] 107)), (1, (.grow (st.repos.map repoX) 41 4)), (2, (.grow (pl.map atX) 128 2))]).trans ?_)
      all_goals have hN := any_no (l := st.repos) (p := fun o => decide (o.name = r.name)) (fun j hj => by simpa using f1_2 j (by omega))
      all_goals have hA : ¬ (nameB r.name = false ∨ st.repos.any (fun o => decide (o.name = r.name)) = true) := fun h => h.elim (fun h => by rw [c1] at h; cases h) (fun h => by rw [hN] at h; cases h)
      all_goals have hI : ¬ (r.inst = true ∧ st.repos.any (fun o => o.inst) = true) := fun ⟨h1, h2⟩ => by rw [any_no (fun j hj => by have := f2_2 j (by omega); simpa [h1] using this)] at h2; cases h2
      all_goals have hE : addE st r = 68 := by unfold addE; rw [if_neg hA, if_neg hI, if_pos (by omega)]
      ·rw [hE]; rfl
      ·rw [addS_no hE (by decide), addA_no hE (by decide)]
     ·try simp only [Bool.and_eq_true, Bool.or_eq_true, Bool.and_eq_false_iff, Bool.or_eq_false_iff, Bool.not_eq_true', Bool.not_eq_false', decide_eq_true_eq, decide_eq_false_iff_not] at c7
      refine SW_skip ?_
      refine SW_seq ?_
      refine SW_P [] [0, 3, 8] ?_
      refine SW_block ?_
      refine SW_L (fun g y => ∃ (i : Nat), i ≤ r.pkgs.length ∧ (∀ j, j < i → pkgE (nth r.pkgs j) = 0) ∧ y = ⟨[(0, (.ptr 0 0)), (3, (.fp (.agg [(.str r.name), (.int .i64 r.prio), (.bool r.inst), (rowOf 12 pkgX r.pkgs)]))), (8, (.int .i64 ((i : Int))))], [(0, (.row [(.int .i64 st.kind), (.own 1), (.own 2)] 107)), (1, (.grow (st.repos.map repoX) 41 4)), (2, (.grow (pl.map atX) 128 2))], 4⟩ ∧ g = r.pkgs.length - i) [0, 3, 8] 4 _ (by omega) ⟨0, (by omega), (by exact fun j hj => by omega), (by kernel_rfl), rfl⟩ ?_
      rintro g3 y3 ⟨i, f3_1, f3_2, rfl, rfl⟩
      refine SW_seq ?_
      refine SW_P [] [0, 3, 8, 79] ?_
      refine SW_if (p := (i : Int) < (r.pkgs.length : Int)) (by kernel_rfl) (fun c8 => ?_) (fun c8 => ?_)
      ·refine SW_skip ?_
       refine SW_seq ?_
       refine SW_block ?_
       refine SW_H [] [0, 3, 8, 9] [] (hk 5 en_92 (refCheck_ok (nth r.pkgs i) (hp i (by omega))) <| hk0) v0 (cc 3 (p := (0 ≤ (i : Int) ∧ i < r.pkgs.length)) (by first | omega | (simp; omega) | (simp; done) | (intros; simp_all; omega) | (intros; simp_all; done)) <| c0) ?_
       refine SW_P [] [0, 3, 8, 9, 89] ?_
       refine SW_ifn (p := (pkgE (nth r.pkgs i)) = 0) (by kernel_rfl) (fun c9 => ?_) (fun c9 => ?_)
       ·refine SW_P [] [4] ?_
        refine SW_ret ?_
        refine retS_mk (.inl rfl) (al := [(.int .i64 (pkgE (nth r.pkgs i)))]) (by kernel_rfl) ?_ ((by kernel_rfl : cutH 3 _ = some [(0, (.row [(.int .i64 st.kind), (.own 1), (.own 2)] 107)), (1, (.grow (st.repos.map repoX) 41 4)), (2, (.grow (pl.map atX) 128 2))]).trans ?_)
        all_goals have hN := any_no (l := st.repos) (p := fun o => decide (o.name = r.name)) (fun j hj => by simpa using f1_2 j (by omega))
        all_goals have hA : ¬ (nameB r.name = false ∨ st.repos.any (fun o => decide (o.name = r.name)) = true) := fun h => h.elim (fun h => by rw [c1] at h; cases h) (fun h => by rw [hN] at h; cases h)
        all_goals have hI : ¬ (r.inst = true ∧ st.repos.any (fun o => o.inst) = true) := fun ⟨h1, h2⟩ => by rw [any_no (fun j hj => by have := f2_2 j (by omega); simpa [h1] using this)] at h2; cases h2
        all_goals have hE : addE st r = pkgE (nth r.pkgs i) := by unfold addE; rw [if_neg hA, if_neg hI, if_neg (by omega)]; exact firstE_at (by omega) f3_2 (by assumption)
        ·rw [hE]; rfl
        ·rw [addS_no hE (by assumption), addA_no hE (by assumption)]
       ·refine SW_skip ?_
        refine SW_reg ?_
        refine SO_HA 0 [] [0, 3, 8] [] hk0 v0 (cc 1 (p := (-9223372036854775808 ≤ (i : Int) + 1 ∧ (i : Int) + 1 ≤ 9223372036854775807)) (by first | omega | (simp; omega) | (simp; done) | (intros; simp_all; omega) | (intros; simp_all; done)) <| c0) ?_
        refine ⟨by kernel_rfl, _, ?_, i + 1, ?_, ?_, (by kernel_rfl), rfl⟩
        ·omega
        ·omega
        ·intro j hj
         by_cases h : j = i
         ·subst h; simp_all
         ·exact f3_2 j (by omega)
      ·refine SW_exit ?_
       refine SW_seq ?_
       refine SW_P [] [0, 3, 10] ?_
       refine SW_block ?_
       refine SW_L (fun g y => ∃ (i : Nat), i ≤ r.pkgs.length ∧ y = ⟨[(0, (.ptr 0 0)), (3, (.fp (.agg [(.str r.name), (.int .i64 r.prio), (.bool r.inst), (rowOf 12 pkgX r.pkgs)]))), (10, (.int .i64 ((i : Int))))], [(0, (.row [(.int .i64 st.kind), (.own 1), (.own 2)] 107)), (1, (.grow (st.repos.map repoX) 41 4)), (2, (.grow ((atTo pl st r i).map atX) 128 2))], 4⟩ ∧ g = r.pkgs.length - i) [0, 3, 10] 4 _ (by omega) ⟨0, (by omega), (Eq.trans (b := (⟨[(0, (.ptr 0 0)), (3, (.fp (.agg [(.str r.name), (.int .i64 r.prio), (.bool r.inst), (rowOf 12 pkgX r.pkgs)]))), (10, (.int .i64 0))], [(0, (.row [(.int .i64 st.kind), (.own 1), (.own 2)] 107)), (1, (.grow (st.repos.map repoX) 41 4)), (2, (.grow (pl.map atX) 128 2))], 4⟩ : St)) (by kernel_rfl) (by rw [show atTo pl st r 0 = pl from by simp [atTo]] <;> rfl)), rfl⟩ ?_
       rintro g4 y4 ⟨i, f4_1, rfl, rfl⟩
       have hkl : ((atTo pl st r i).map atX).length ≤ 200 := by rw [List.length_map, atTo_len]; omega
       refine SW_seq ?_
       refine SW_P [] [0, 3, 10, 95] ?_
       refine SW_if (p := (i : Int) < (r.pkgs.length : Int)) (by kernel_rfl) (fun c10 => ?_) (fun c10 => ?_)
       ·refine SW_skip ?_
        refine SW_C (fun y => y = ⟨[(0, (.ptr 0 0)), (3, (.fp (.agg [(.str r.name), (.int .i64 r.prio), (.bool r.inst), (rowOf 12 pkgX r.pkgs)]))), (10, (.int .i64 ((i : Int))))], [(0, (.row [(.int .i64 st.kind), (.own 1), (.own 2)] 107)), (1, (.grow (st.repos.map repoX) 41 4)), (2, (.grow ((atTo pl st r (i + 1)).map atX) 128 2))], 4⟩) [0, 3, 10] 4 (by omega) ?_ ?_
        ·refine SW_block ?_
         refine SW_DA [] [0, 3, 10] [] hk0 v0 (cc 13 (p := ((((atTo pl st r i).map atX).length + 1) * 16 ≤ 140737488355328)) (by first | omega | (simp; omega) | (simp; done) | (intros; simp_all; omega) | (intros; simp_all; done)) <| c0) ?_
         refine ⟨by kernel_rfl, (Eq.trans (b := (⟨[(0, (.ptr 0 0)), (3, (.fp (.agg [(.str r.name), (.int .i64 r.prio), (.bool r.inst), (rowOf 12 pkgX r.pkgs)]))), (10, (.int .i64 ((i : Int))))], [(0, (.row [(.int .i64 st.kind), (.own 1), (.own 2)] 107)), (1, (.grow (st.repos.map repoX) 41 4)), (2, (.grow (((atTo pl st r i).map atX) ++ ([(.agg [(.int .i64 (((st.repos.map repoX).length : Int))), (.int .i64 ((i : Int)))])] : List AV)) 128 2))], 4⟩ : St)) (by kernel_rfl) (by rw [show (((atTo pl st r i).map atX) ++ ([(.agg [(.int .i64 (((st.repos.map repoX).length : Int))), (.int .i64 ((i : Int)))])] : List AV)) = (atTo pl st r (i + 1)).map atX from by rw [atTo_next, List.map_append, List.length_map]; rfl] <;> kernel_rfl))⟩
        ·rintro y2 rfl
         refine SW_reg ?_
         refine SO_HA 0 [] [0, 3, 10] [] hk0 v0 (cc 1 (p := (-9223372036854775808 ≤ (i : Int) + 1 ∧ (i : Int) + 1 ≤ 9223372036854775807)) (by first | omega | (simp; omega) | (simp; done) | (intros; simp_all; omega) | (intros; simp_all; done)) <| c0) ?_
         refine ⟨by kernel_rfl, _, ?_, i + 1, ?_, (by kernel_rfl), rfl⟩
         ·omega
         ·omega
       ·refine SW_exit ?_
        refine SW_C (fun y => y = ⟨[], [(0, (.row [(.int .i64 st.kind), (.own 1), (.own 2)] 107)), (1, (.grow ((st.repos ++ [r]).map repoX) 41 4)), (2, (.grow ((atTo pl st r i).map atX) 128 2))], 4⟩) [] 4 (by omega) ?_ ?_
        ·refine SW_DA [] [] [] hk0 v0 (cc 7 (p := (((st.repos.map repoX).length + 1) * 56 ≤ 140737488355328)) (by first | omega | (simp; omega) | (simp; done) | (intros; simp_all; omega) | (intros; simp_all; done)) <| c0) ?_
         refine ⟨by kernel_rfl, (Eq.trans (b := (⟨[], [(0, (.row [(.int .i64 st.kind), (.own 1), (.own 2)] 107)), (1, (.grow ((st.repos.map repoX) ++ ([(.agg [(.str r.name), (.int .i64 r.prio), (.bool r.inst), (rowOf 12 pkgX r.pkgs)])] : List AV)) 41 4)), (2, (.grow ((atTo pl st r i).map atX) 128 2))], 4⟩ : St)) (by kernel_rfl) (by rw [show ((st.repos.map repoX) ++ ([(.agg [(.str r.name), (.int .i64 r.prio), (.bool r.inst), (rowOf 12 pkgX r.pkgs)])] : List AV)) = (st.repos ++ [r]).map repoX from by rw [List.map_append]; rfl] <;> kernel_rfl))⟩
        ·rintro y3 rfl
         refine SW_P [] [4] ?_
         refine SW_ret ?_
         refine retS_mk (.inl rfl) (al := [(.int .i64 0)]) (by kernel_rfl) ?_ ((by kernel_rfl : cutH 3 _ = some [(0, (.row [(.int .i64 st.kind), (.own 1), (.own 2)] 107)), (1, (.grow ((st.repos ++ [r]).map repoX) 41 4)), (2, (.grow ((atTo pl st r i).map atX) 128 2))]).trans ?_)
         all_goals have hN := any_no (l := st.repos) (p := fun o => decide (o.name = r.name)) (fun j hj => by simpa using f1_2 j (by omega))
         all_goals have hA : ¬ (nameB r.name = false ∨ st.repos.any (fun o => decide (o.name = r.name)) = true) := fun h => h.elim (fun h => by rw [c1] at h; cases h) (fun h => by rw [hN] at h; cases h)
         all_goals have hI : ¬ (r.inst = true ∧ st.repos.any (fun o => o.inst) = true) := fun ⟨h1, h2⟩ => by rw [any_no (fun j hj => by have := f2_2 j (by omega); simpa [h1] using this)] at h2; cases h2
         all_goals have hE : addE st r = 0 := by unfold addE; rw [if_neg hA, if_neg hI, if_neg (by omega)]; exact firstE_no fun j hj => f3_2 j (by omega)
         ·rw [hE]; rfl
         ·unfold addS addA; rw [if_pos hE, if_pos hE, show i = r.pkgs.length from by omega]
end Sv
end Go.Proofs.YtlfjokcbkopfeaaGreatDoor
end
section
namespace Go.Proofs.YtlfjokcbkopfeaaGreatDoor
open Go Go.RowKit
namespace Sv
attribute [local irreducible] SW SO holds
theorem en_9 : Enters Tryz.prog 9 := enters_of Tryz.func9 (by kernel_rfl) rfl
theorem en_39 : Enters Tryz.prog 39 := enters_of Tryz.func39 (by kernel_rfl) rfl
theorem en_40 : Enters Tryz.prog 40 := enters_of Tryz.func40 (by kernel_rfl) rfl
def kindN (k : Int) : Int := if k = 2 then 2 else 1
theorem kindN_or (k : Int) : kindN k = 1 ∨ kindN k = 2 := by unfold kindN; split <;> simp
theorem kindN_two {k : Int} (h : k = 2) : kindN k = k := by unfold kindN; rw [if_pos h, h]
def pkgsSize : List PkgT → Nat
 | [] => 0
 | p :: r => 1 + p.size + pkgsSize r
theorem pkgs_len : ∀ l : List PkgT, l.length ≤ pkgsSize l
 | [] => Nat.zero_le _
 | p :: r => by have := pkgs_len r; simp only [pkgsSize, List.length_cons]; omega
theorem pkg_len : ∀ {l : List PkgT} {i : Nat}, i < l.length → (nth l i).size ≤ pkgsSize l
 | [], _, h => by simp at h
 | p :: r, 0, _ => by simp only [pkgsSize]; show p.size ≤ _; omega
 | p :: r, i + 1, h => by
  have := pkg_len (l := r) (i := i) (by simpa using h)
  simp only [pkgsSize]; show (nth r i).size ≤ _; omega
def _root_.Go.Proofs.YtlfjokcbkopfeaaGreatDoor.RepoT.size (r : RepoT) : Nat := 1 + r.name.length + pkgsSize r.pkgs
theorem _root_.Go.Proofs.YtlfjokcbkopfeaaGreatDoor.RepoT.sizes (r : RepoT) : r.name.length ≤ r.size ∧ r.pkgs.length ≤ r.size := by
 have := pkgs_len r.pkgs
 unfold RepoT.size; omega
theorem _root_.Go.Proofs.YtlfjokcbkopfeaaGreatDoor.RepoT.size_pkg {r : RepoT} {i : Nat} (h : i < r.pkgs.length) : (nth r.pkgs i).size ≤ r.size := by
 have := pkg_len h
 unfold RepoT.size; omega
def bothTo (k : Int) (l : List RepoT) : PoolT × List (Int × Int) := l.foldl (fun s r => (addS s.1 r, addA s.2 s.1 r)) (⟨k, [], []⟩, [])
def bothOk (s : PoolT × List (Int × Int)) : Prop := s.1.repos.length ≤ 8 ∧ s.1.all.length ≤ 200 ∧ s.2.length = s.1.all.length
theorem bothOk_step {s : PoolT × List (Int × Int)} {r : RepoT} (h : bothOk s) : bothOk (addS s.1 r, addA s.2 s.1 r) := by
 obtain ⟨h1, h2, h3⟩ := h
 by_cases he : addE s.1 r = 0
 ·have hm : ¬ (8 ≤ s.1.repos.length ∨ 200 < s.1.all.length + r.pkgs.length) := by
   intro q
   unfold addE at he
   rw [if_pos q] at he
   split at he <;> first | omega | (split at he <;> omega)
  unfold bothOk addS addA
  simp only [if_pos he, List.length_append, List.length_singleton, keptsTo, atTo, List.length_map, List.length_take, List.length_range]
  omega
 ·unfold bothOk addS addA
  rw [if_neg he, if_neg he]; exact ⟨h1, h2, h3⟩
theorem bothTo_ok (k : Int) (l : List RepoT) : bothOk (bothTo k l) := by
 have key : ∀ (l : List RepoT) (s : PoolT × List (Int × Int)), bothOk s → bothOk (l.foldl (fun s r => (addS s.1 r, addA s.2 s.1 r)) s) := by
  intro l
  induction l with
  | nil => exact fun s h => h
  | cons r l ih => exact fun s h => ih _ (bothOk_step h)
 exact key l _ ⟨by simp, by simp, by simp⟩
theorem bothTo_next {k : Int} {l : List RepoT} {i : Nat} (h : i < l.length) : bothTo k (l.take (i + 1)) = (addS (bothTo k (l.take i)).1 (nth l i), addA (bothTo k (l.take i)).2 (bothTo k (l.take i)).1 (nth l i)) := by
 unfold bothTo
 rw [List.take_add_one, List.getElem?_eq_getElem h, List.foldl_append]
 simp [nth, h]
noncomputable def poolX (st : PoolT) : AV := .agg [.int .i64 st.kind, rowOf 4 repoNX st.repos, rowOf 13 keptX st.all, .smap (.slice none 0 0) (fun s => .row 1 (namedG st.all s).length (fun i => (namedG st.all s).getD i junk))]
noncomputable def poolR (st : PoolT) (pl : List (Int × Int)) : AV := .agg [.int .i64 st.kind, rowOf 4 repoX st.repos, rowOf 2 atX pl]
set_option maxHeartbeats 1000000 in
set_option maxRecDepth 100000 in
theorem Pools_ok (kind : Int) (l : List RepoT) (hll : l.length ≤ 4611686018427387904) (hl : ∀ i, i < l.length → (nth l i).size ≤ 4194304) :
  FnV Tryz.prog 9 [(.int .i64 kind), (rowOf 4 repoX l)] (.tup [.fp (poolX (bothTo (kindN kind) l).1), .fp (poolR (bothTo (kindN kind) l).1 (bothTo (kindN kind) l).2)]) := by
 refine FnV_intro [.tmp 4, .tmp 5] Tryz.func9 rfl Tryz.ntmps9 rfl rfl (fun B F hF => ?_)
 refine SW_P [] [0, 1] ?_
 refine SW_C (fun y => y = ⟨[(0, (.int .i64 ((kindN kind)))), (1, (rowOf 4 repoX l))], [], 0⟩) [0, 1] 0 (by omega) ?_ ?_
 ·refine SW_P [] [0, 1, 12] ?_
  refine SW_ifn (p := kind = 2) (by kernel_rfl) (fun c1 => ?_) (fun c1 => ?_)
  ·refine SW_reg ?_
   refine SO_P [] [0, 1] ?_
   refine ⟨by kernel_rfl, (Eq.trans (b := (⟨[(0, (.int .i64 1)), (1, (rowOf 4 repoX l))], [], 0⟩ : St)) (by kernel_rfl) (by rw [show kindN kind = 1 from if_neg (by assumption)] <;> rfl))⟩
  ·refine SW_skip ?_
   refine ⟨by kernel_rfl, (Eq.trans (b := (⟨[(0, (.int .i64 kind)), (1, (rowOf 4 repoX l))], [], 0⟩ : St)) (by kernel_rfl) (by rw [show kindN kind = kind from kindN_two (by omega)] <;> rfl))⟩
 ·rintro y1 rfl
  refine SW_seq ?_
  refine SW_reg ?_
  refine SO_H 1 0 [] [0, 1, 14] [] hk0 v0 c0 ?_
  refine SO_inl [.tmp 2, .tmp 3] (al := [(.int .i64 ((kindN kind)))]) (s0 := [(0, (.int .i64 ((kindN kind)))), (1, (rowOf 4 repoX l)), (14, (.int .i64 ((kindN kind))))]) (by kernel_rfl) (by exact en_39) (by kernel_rfl) Tryz.func39 rfl Tryz.ntmps39 rfl (by kernel_rfl) (by kernel_rfl) (fun F1 hF1 hle1 => ?_)
  refine SW_P [] [0] ?_
  refine SW_seq ?_
  obtain ⟨b1_1, hb1_1⟩ : ∃ b, b = (!decide ((kindN kind) = 1)) := ⟨_, rfl⟩
  refine SW_H (CS := [(4, (b1_1 = true → b1_1 = true)), (5, (b1_1 = true → b1_1 = true))]) [7, 8] [0, 9] [] hk0 (vk 3 6 (a := .bool (!decide ((kindN kind) = 1))) (b := .bool b1_1) (Imp.of_eq (by rw [hb1_1])) <| v0) (by refine cc _ ?_ <| cc _ ?_ c0 <;> first | omega | (simp; omega) | (simp; done) | (intros; simp_all; omega) | (intros; simp_all; done)) ?_
  refine SW_cond (q := b1_1 && (!decide ((kindN kind) = 2))) (by kernel_rfl) (fun c2 => ?_) (fun c2 => ?_)
  ·subst hb1_1
   try simp only [Bool.and_eq_true, Bool.or_eq_true, Bool.and_eq_false_iff, Bool.or_eq_false_iff, Bool.not_eq_true', Bool.not_eq_false', decide_eq_true_eq, decide_eq_false_iff_not] at c2
   exfalso; rcases kindN_or kind with hk | hk <;> simp_all
  ·subst hb1_1
   try simp only [Bool.and_eq_true, Bool.or_eq_true, Bool.and_eq_false_iff, Bool.or_eq_false_iff, Bool.not_eq_true', Bool.not_eq_false', decide_eq_true_eq, decide_eq_false_iff_not] at c2
   refine SW_skip ?_
   refine SW_P [] [2, 3] ?_
   refine SW_ret ?_
   refine inlK_mk (.inl rfl) (al := [(.ptr 1 0), (.int .i64 0)]) (s' := [(0, (.int .i64 ((kindN kind)))), (1, (rowOf 4 repoX l)), (14, (.int .i64 ((kindN kind)))), (15, (.tup [(.ptr 1 0), (.int .i64 0)]))]) (by kernel_rfl) (by kernel_rfl) ?_
   refine SO_HA 2 [] [0, 1, 6, 7] [] hk0 v0 c0 ?_
   refine SW_seq ?_
   refine SW_reg ?_
   refine SO_H 1 0 [] [1, 6, 7, 19] [] hk0 v0 c0 ?_
   refine SO_inl [.tmp 2, .tmp 3] (al := [(.int .i64 ((kindN kind)))]) (s0 := [(1, (rowOf 4 repoX l)), (6, (.ptr 1 0)), (7, (.int .i64 0)), (19, (.int .i64 ((kindN kind))))]) (by kernel_rfl) (by exact en_40) (by kernel_rfl) Tryz.func40 rfl Tryz.ntmps40 rfl (by kernel_rfl) (by kernel_rfl) (fun F2 hF2 hle2 => ?_)
   refine SW_P [] [0] ?_
   refine SW_seq ?_
   obtain ⟨b2_1, hb2_1⟩ : ∃ b, b = (!decide ((kindN kind) = 1)) := ⟨_, rfl⟩
   refine SW_H (CS := [(4, (b2_1 = true → b2_1 = true)), (5, (b2_1 = true → b2_1 = true))]) [7, 8] [0, 9] [] hk0 (vk 3 6 (a := .bool (!decide ((kindN kind) = 1))) (b := .bool b2_1) (Imp.of_eq (by rw [hb2_1])) <| v0) (by refine cc _ ?_ <| cc _ ?_ c0 <;> first | omega | (simp; omega) | (simp; done) | (intros; simp_all; omega) | (intros; simp_all; done)) ?_
   refine SW_cond (q := b2_1 && (!decide ((kindN kind) = 2))) (by kernel_rfl) (fun c3 => ?_) (fun c3 => ?_)
   ·subst hb2_1
    try simp only [Bool.and_eq_true, Bool.or_eq_true, Bool.and_eq_false_iff, Bool.or_eq_false_iff, Bool.not_eq_true', Bool.not_eq_false', decide_eq_true_eq, decide_eq_false_iff_not] at c3
    exfalso; rcases kindN_or kind with hk | hk <;> simp_all
   ·subst hb2_1
    try simp only [Bool.and_eq_true, Bool.or_eq_true, Bool.and_eq_false_iff, Bool.or_eq_false_iff, Bool.not_eq_true', Bool.not_eq_false', decide_eq_true_eq, decide_eq_false_iff_not] at c3
    refine SW_skip ?_
    refine SW_P [] [2, 3] ?_
    refine SW_ret ?_
    refine inlK_mk (.inl rfl) (al := [(.ptr 2 0), (.int .i64 0)]) (s' := [(1, (rowOf 4 repoX l)), (6, (.ptr 1 0)), (7, (.int .i64 0)), (19, (.int .i64 ((kindN kind)))), (20, (.tup [(.ptr 2 0), (.int .i64 0)]))]) (by kernel_rfl) (by kernel_rfl) ?_
    refine SO_HA 2 [] [1, 6, 7, 8] [] hk0 v0 c0 ?_
    refine SW_seq ?_
    refine SW_P [] [1, 6, 8, 28] ?_
    refine SW_false (by kernel_rfl) ?_
    refine SW_skip ?_
    refine SW_seq ?_
    refine SW_P [] [1, 6, 8, 10] ?_
    refine SW_block ?_
    refine SW_thawC 41 4 1 1 (y := ⟨[(1, (rowOf 4 repoX l)), (6, (.ptr 1 0)), (8, (.ptr 2 0)), (10, (.int .i64 0))], [(0, (.map [] 0)), (1, (.row [(.int .i64 ((kindN kind))), (.own 3), .nils, (.map 0)] 92)), (2, (.row [(.int .i64 ((kindN kind))), .nils, .nils] 107)), (3, (.grow [] 41 4))], 4⟩) (by kernel_rfl) (by kernel_rfl) ?_
    refine SW_thawC 97 13 1 2 (y := ⟨[(1, (rowOf 4 repoX l)), (6, (.ptr 1 0)), (8, (.ptr 2 0)), (10, (.int .i64 0))], [(0, (.map [] 0)), (1, (.row [(.int .i64 ((kindN kind))), (.own 3), (.own 4), (.map 0)] 92)), (2, (.row [(.int .i64 ((kindN kind))), .nils, .nils] 107)), (3, (.grow [] 41 4)), (4, (.grow [] 97 13))], 5⟩) (by kernel_rfl) (by kernel_rfl) ?_
    refine SW_thawC 41 4 2 1 (y := ⟨[(1, (rowOf 4 repoX l)), (6, (.ptr 1 0)), (8, (.ptr 2 0)), (10, (.int .i64 0))], [(0, (.map [] 0)), (1, (.row [(.int .i64 ((kindN kind))), (.own 3), (.own 4), (.map 0)] 92)), (2, (.row [(.int .i64 ((kindN kind))), (.own 5), .nils] 107)), (3, (.grow [] 41 4)), (4, (.grow [] 97 13)), (5, (.grow [] 41 4))], 6⟩) (by kernel_rfl) (by kernel_rfl) ?_
    refine SW_thawC 128 2 2 2 (y := ⟨[(1, (rowOf 4 repoX l)), (6, (.ptr 1 0)), (8, (.ptr 2 0)), (10, (.int .i64 0))], [(0, (.map [] 0)), (1, (.row [(.int .i64 ((kindN kind))), (.own 3), (.own 4), (.map 0)] 92)), (2, (.row [(.int .i64 ((kindN kind))), (.own 5), (.own 6)] 107)), (3, (.grow [] 41 4)), (4, (.grow [] 97 13)), (5, (.grow [] 41 4)), (6, (.grow [] 128 2))], 7⟩) (by kernel_rfl) (by kernel_rfl) ?_
    refine SW_mm 0 3 1 (y := ⟨[(1, (rowOf 4 repoX l)), (6, (.ptr 1 0)), (8, (.ptr 2 0)), (10, (.int .i64 0))], [(0, (.mm (fun _ => []) none 3 1)), (1, (.row [(.int .i64 ((kindN kind))), (.own 3), (.own 4), (.map 0)] 92)), (2, (.row [(.int .i64 ((kindN kind))), (.own 5), (.own 6)] 107)), (3, (.grow [] 41 4)), (4, (.grow [] 97 13)), (5, (.grow [] 41 4)), (6, (.grow [] 128 2))], 7⟩) (by kernel_rfl) ?_
    refine SW_L (fun g y => ∃ (i : Nat), i ≤ l.length ∧ y = ⟨[(1, (rowOf 4 repoX l)), (6, (.ptr 1 0)), (8, (.ptr 2 0)), (10, (.int .i64 ((i : Int))))], [(0, (.mm (namedG ((bothTo (kindN kind) (l.take i)).1).all) none 3 1)), (1, (.row [(.int .i64 ((bothTo (kindN kind) (l.take i)).1.kind)), (.own 3), (.own 4), (.map 0)] 92)), (2, (.row [(.int .i64 ((bothTo (kindN kind) (l.take i)).1.kind)), (.own 5), (.own 6)] 107)), (3, (.grow (((bothTo (kindN kind) (l.take i)).1).repos.map repoNX) 41 4)), (4, (.grow (((bothTo (kindN kind) (l.take i)).1).all.map keptX) 97 13)), (5, (.grow (((bothTo (kindN kind) (l.take i)).1).repos.map repoX) 41 4)), (6, (.grow (((bothTo (kindN kind) (l.take i)).2).map atX) 128 2))], 7⟩ ∧ g = l.length - i) [1, 6, 8, 10] 7 _ (by omega) ⟨0, (by omega), (by kernel_rfl), rfl⟩ ?_
    rintro g1 y1 ⟨i, f1_1, rfl, rfl⟩
    have hb := bothTo_ok (kindN kind) (l.take i)
    refine SW_seq ?_
    refine SW_P [] [1, 6, 8, 10, 32] ?_
    refine SW_if (p := (i : Int) < (l.length : Int)) (by kernel_rfl) (fun c4 => ?_) (fun c4 => ?_)
    ·have hz := RepoT.sizes (nth l i)
     have hw := hl i (by omega)
     refine SW_skip ?_
     refine SW_seq ?_
     refine SW_block ?_
     refine SW_seq ?_
     refine SW_draw (by kernel_rfl) (fun F1 hF1 => ?_)
     refine SG_F (fuel := 3) [] [0, 1, 2, 3, 4, 6, 7, 8, 9, 10] [1, 6, 8, 10, 35, 39, 41, 45] (hold (p := (0 ≤ (i : Int) ∧ i < l.length) ∧ (0 ≤ (i : Int) ∧ i < l.length)) (by first | omega | (simp; omega) | (simp; done) | (intros; simp_all; omega) | (intros; simp_all; done))) ?_
     refine SG_one (fuel := 2) 5 (by kernel_rfl) ?_
     refine SN_by (fuel := 2) 5 rfl ?_
     refine SO_callS [1, 3, 4, 0] (al := [(.ptr 1 0), (.agg [(.str ((nth l i).name)), (.int .i64 ((nth l i).prio)), (.bool ((nth l i).inst)), (rowOf 12 pkgX ((nth l i).pkgs))])]) (al' := [(.ptr 0 0), (.agg [(.str ((nth l i).name)), (.int .i64 ((nth l i).prio)), (.bool ((nth l i).inst)), (rowOf 12 pkgX ((nth l i).pkgs))])]) (r := (.int .i64 (addE (bothTo (kindN kind) (l.take i)).1 (nth l i)))) (r' := (.int .i64 (addE (bothTo (kindN kind) (l.take i)).1 (nth l i)))) (s' := [(1, (rowOf 4 repoX l)), (6, (.ptr 1 0)), (8, (.ptr 2 0)), (10, (.int .i64 ((i : Int)))), (35, (.ptr 1 0)), (39, (.agg [(.str ((nth l i).name)), (.int .i64 ((nth l i).prio)), (.bool ((nth l i).inst)), (rowOf 12 pkgX ((nth l i).pkgs))])), (41, (.ptr 2 0)), (45, (.agg [(.str ((nth l i).name)), (.int .i64 ((nth l i).prio)), (.bool ((nth l i).inst)), (rowOf 12 pkgX ((nth l i).pkgs))])), (40, (.int .i64 (addE (bothTo (kindN kind) (l.take i)).1 (nth l i))))]) (H := [(0, (.row [(.int .i64 ((bothTo (kindN kind) (l.take i)).1.kind)), (.own 1), (.own 2), (.map 3)] 92)), (1, (.grow (((bothTo (kindN kind) (l.take i)).1).repos.map repoNX) 41 4)), (2, (.grow (((bothTo (kindN kind) (l.take i)).1).all.map keptX) 97 13)), (3, (.mm (namedG ((bothTo (kindN kind) (l.take i)).1).all) none 3 1))]) (H' := [(0, (.row [(.int .i64 ((addS (bothTo (kindN kind) (l.take i)).1 (nth l i)).kind)), (.own 1), (.own 2), (.map 3)] 92)), (1, (.grow ((addS (bothTo (kindN kind) (l.take i)).1 (nth l i)).repos.map repoNX) 41 4)), (2, (.grow ((addS (bothTo (kindN kind) (l.take i)).1 (nth l i)).all.map keptX) 97 13)), (3, (.mm (namedG (addS (bothTo (kindN kind) (l.take i)).1 (nth l i)).all) none 3 1))]) (h2 := [(0, (.mm (namedG (addS (bothTo (kindN kind) (l.take i)).1 (nth l i)).all) none 3 1)), (1, (.row [(.int .i64 ((addS (bothTo (kindN kind) (l.take i)).1 (nth l i)).kind)), (.own 3), (.own 4), (.map 0)] 92)), (2, (.row [(.int .i64 ((bothTo (kindN kind) (l.take i)).1.kind)), (.own 5), (.own 6)] 107)), (3, (.grow ((addS (bothTo (kindN kind) (l.take i)).1 (nth l i)).repos.map repoNX) 41 4)), (4, (.grow ((addS (bothTo (kindN kind) (l.take i)).1 (nth l i)).all.map keptX) 97 13)), (5, (.grow (((bothTo (kindN kind) (l.take i)).1).repos.map repoX) 41 4)), (6, (.grow (((bothTo (kindN kind) (l.take i)).2).map atX) 128 2))]) (by kernel_rfl) (by exact en_11) (by kernel_rfl) (by kernel_rfl) (by kernel_rfl) (by kernel_rfl) (by kernel_rfl) (Add_ok (bothTo (kindN kind) (l.take i)).1 (nth l i) hb.1 hb.2.1 (by omega) (by omega) (fun j hj => Nat.le_trans (RepoT.size_pkg hj) (hl i (by omega)))) (by kernel_rfl) (by kernel_rfl) (by kernel_rfl) ?_
     refine SO_nil ⟨rfl, ?_⟩
     refine SG_one (fuel := 1) 11 (by kernel_rfl) ?_
     refine SN_by (fuel := 1) 11 rfl ?_
     refine SO_callS [2, 5, 6] (al := [(.ptr 2 0), (.agg [(.str ((nth l i).name)), (.int .i64 ((nth l i).prio)), (.bool ((nth l i).inst)), (rowOf 12 pkgX ((nth l i).pkgs))])]) (al' := [(.ptr 0 0), (.agg [(.str ((nth l i).name)), (.int .i64 ((nth l i).prio)), (.bool ((nth l i).inst)), (rowOf 12 pkgX ((nth l i).pkgs))])]) (r := (.int .i64 (addE (bothTo (kindN kind) (l.take i)).1 (nth l i)))) (r' := (.int .i64 (addE (bothTo (kindN kind) (l.take i)).1 (nth l i)))) (s' := [(1, (rowOf 4 repoX l)), (6, (.ptr 1 0)), (8, (.ptr 2 0)), (10, (.int .i64 ((i : Int)))), (35, (.ptr 1 0)), (39, (.agg [(.str ((nth l i).name)), (.int .i64 ((nth l i).prio)), (.bool ((nth l i).inst)), (rowOf 12 pkgX ((nth l i).pkgs))])), (41, (.ptr 2 0)), (45, (.agg [(.str ((nth l i).name)), (.int .i64 ((nth l i).prio)), (.bool ((nth l i).inst)), (rowOf 12 pkgX ((nth l i).pkgs))])), (40, (.int .i64 (addE (bothTo (kindN kind) (l.take i)).1 (nth l i)))), (46, (.int .i64 (addE (bothTo (kindN kind) (l.take i)).1 (nth l i))))]) (H := [(0, (.row [(.int .i64 ((bothTo (kindN kind) (l.take i)).1.kind)), (.own 1), (.own 2)] 107)), (1, (.grow (((bothTo (kindN kind) (l.take i)).1).repos.map repoX) 41 4)), (2, (.grow (((bothTo (kindN kind) (l.take i)).2).map atX) 128 2))]) (H' := [(0, (.row [(.int .i64 ((addS (bothTo (kindN kind) (l.take i)).1 (nth l i)).kind)), (.own 1), (.own 2)] 107)), (1, (.grow ((addS (bothTo (kindN kind) (l.take i)).1 (nth l i)).repos.map repoX) 41 4)), (2, (.grow ((addA (bothTo (kindN kind) (l.take i)).2 (bothTo (kindN kind) (l.take i)).1 (nth l i)).map atX) 128 2))]) (h2 := [(0, (.mm (namedG (addS (bothTo (kindN kind) (l.take i)).1 (nth l i)).all) none 3 1)), (1, (.row [(.int .i64 ((addS (bothTo (kindN kind) (l.take i)).1 (nth l i)).kind)), (.own 3), (.own 4), (.map 0)] 92)), (2, (.row [(.int .i64 ((addS (bothTo (kindN kind) (l.take i)).1 (nth l i)).kind)), (.own 5), (.own 6)] 107)), (3, (.grow ((addS (bothTo (kindN kind) (l.take i)).1 (nth l i)).repos.map repoNX) 41 4)), (4, (.grow ((addS (bothTo (kindN kind) (l.take i)).1 (nth l i)).all.map keptX) 97 13)), (5, (.grow ((addS (bothTo (kindN kind) (l.take i)).1 (nth l i)).repos.map repoX) 41 4)), (6, (.grow ((addA (bothTo (kindN kind) (l.take i)).2 (bothTo (kindN kind) (l.take i)).1 (nth l i)).map atX) 128 2))]) (by kernel_rfl) (by exact en_41) (by kernel_rfl) (by kernel_rfl) (by kernel_rfl) (by kernel_rfl) (by kernel_rfl) (refAdd_ok (bothTo (kindN kind) (l.take i)).1 (bothTo (kindN kind) (l.take i)).2 (nth l i) hb.1 hb.2.1 hb.2.2 (by omega) (by omega) (fun j hj => Nat.le_trans (RepoT.size_pkg hj) (hl i (by omega)))) (by kernel_rfl) (by kernel_rfl) (by kernel_rfl) ?_
     refine SO_nil ⟨rfl, ?_⟩
     refine SG_F (fuel := 0) [] [12] [1, 6, 8, 10, 47] hold0 ?_
     refine SG_S [1, 6, 8, 10, 47] ?_
     refine SG_done (by kernel_rfl) ?_
     refine SW_ifn (p := (addE (bothTo (kindN kind) (l.take i)).1 (nth l i)) = (addE (bothTo (kindN kind) (l.take i)).1 (nth l i))) (by kernel_rfl) (fun c5 => ?_) (fun c5 => ?_)
     ·exact absurd rfl c5
     ·refine SW_skip ?_
      refine SW_reg ?_
      refine SO_HA 0 [] [1, 6, 8, 10] [] hk0 v0 (cc 1 (p := (-9223372036854775808 ≤ (i : Int) + 1 ∧ (i : Int) + 1 ≤ 9223372036854775807)) (by first | omega | (simp; omega) | (simp; done) | (intros; simp_all; omega) | (intros; simp_all; done)) <| c0) ?_
      refine ⟨by kernel_rfl, _, ?_, i + 1, ?_, (Eq.trans (b := (⟨[(1, (rowOf 4 repoX l)), (6, (.ptr 1 0)), (8, (.ptr 2 0)), (10, (.int .i64 ((i : Int) + 1)))], [(0, (.mm (namedG (addS (bothTo (kindN kind) (l.take i)).1 (nth l i)).all) none 3 1)), (1, (.row [(.int .i64 ((addS (bothTo (kindN kind) (l.take i)).1 (nth l i)).kind)), (.own 3), (.own 4), (.map 0)] 92)), (2, (.row [(.int .i64 ((addS (bothTo (kindN kind) (l.take i)).1 (nth l i)).kind)), (.own 5), (.own 6)] 107)), (3, (.grow ((addS (bothTo (kindN kind) (l.take i)).1 (nth l i)).repos.map repoNX) 41 4)), (4, (.grow ((addS (bothTo (kindN kind) (l.take i)).1 (nth l i)).all.map keptX) 97 13)), (5, (.grow ((addS (bothTo (kindN kind) (l.take i)).1 (nth l i)).repos.map repoX) 41 4)), (6, (.grow ((addA (bothTo (kindN kind) (l.take i)).2 (bothTo (kindN kind) (l.take i)).1 (nth l i)).map atX) 128 2))], 7⟩ : St)) (by kernel_rfl) (by rw [bothTo_next (by omega)] <;> kernel_rfl)), rfl⟩
      ·omega
      ·omega
    ·refine SW_exit ?_
     refine SW_seq ?_
     refine SW_reg ?_
     refine SO_stillC 1 1 (y := ⟨[(1, (rowOf 4 repoX l)), (6, (.ptr 1 0)), (8, (.ptr 2 0)), (10, (.int .i64 ((i : Int)))), (32, (.bool (decide ((i : Int) < (l.length : Int)))))], [(0, (.mm (namedG ((bothTo (kindN kind) (l.take i)).1).all) none 3 1)), (1, (.row [(.int .i64 ((bothTo (kindN kind) (l.take i)).1.kind)), (.row 4 (((bothTo (kindN kind) (l.take i)).1).repos.map repoNX).length (fun ix => (((bothTo (kindN kind) (l.take i)).1).repos.map repoNX).getD ix junk)), (.own 4), (.map 0)] 92)), (2, (.row [(.int .i64 ((bothTo (kindN kind) (l.take i)).1.kind)), (.own 5), (.own 6)] 107)), (4, (.grow (((bothTo (kindN kind) (l.take i)).1).all.map keptX) 97 13)), (5, (.grow (((bothTo (kindN kind) (l.take i)).1).repos.map repoX) 41 4)), (6, (.grow (((bothTo (kindN kind) (l.take i)).2).map atX) 128 2))], 7⟩) (by kernel_rfl) ?_
     refine SO_stillC 1 2 (y := ⟨[(1, (rowOf 4 repoX l)), (6, (.ptr 1 0)), (8, (.ptr 2 0)), (10, (.int .i64 ((i : Int)))), (32, (.bool (decide ((i : Int) < (l.length : Int)))))], [(0, (.mm (namedG ((bothTo (kindN kind) (l.take i)).1).all) none 3 1)), (1, (.row [(.int .i64 ((bothTo (kindN kind) (l.take i)).1.kind)), (.row 4 (((bothTo (kindN kind) (l.take i)).1).repos.map repoNX).length (fun ix => (((bothTo (kindN kind) (l.take i)).1).repos.map repoNX).getD ix junk)), (.row 13 (((bothTo (kindN kind) (l.take i)).1).all.map keptX).length (fun ix => (((bothTo (kindN kind) (l.take i)).1).all.map keptX).getD ix junk)), (.map 0)] 92)), (2, (.row [(.int .i64 ((bothTo (kindN kind) (l.take i)).1.kind)), (.own 5), (.own 6)] 107)), (5, (.grow (((bothTo (kindN kind) (l.take i)).1).repos.map repoX) 41 4)), (6, (.grow (((bothTo (kindN kind) (l.take i)).2).map atX) 128 2))], 7⟩) (by kernel_rfl) ?_
     refine SO_stillC 1 3 (y := ⟨[(1, (rowOf 4 repoX l)), (6, (.ptr 1 0)), (8, (.ptr 2 0)), (10, (.int .i64 ((i : Int)))), (32, (.bool (decide ((i : Int) < (l.length : Int)))))], [(1, (.row [(.int .i64 ((bothTo (kindN kind) (l.take i)).1.kind)), (.row 4 (((bothTo (kindN kind) (l.take i)).1).repos.map repoNX).length (fun ix => (((bothTo (kindN kind) (l.take i)).1).repos.map repoNX).getD ix junk)), (.row 13 (((bothTo (kindN kind) (l.take i)).1).all.map keptX).length (fun ix => (((bothTo (kindN kind) (l.take i)).1).all.map keptX).getD ix junk)), (.smap (.slice none 0 0) (fun kq => .row 1 ((namedG ((bothTo (kindN kind) (l.take i)).1).all) kq).length (fun ix => ((namedG ((bothTo (kindN kind) (l.take i)).1).all) kq).getD ix junk)))] 92)), (2, (.row [(.int .i64 ((bothTo (kindN kind) (l.take i)).1.kind)), (.own 5), (.own 6)] 107)), (5, (.grow (((bothTo (kindN kind) (l.take i)).1).repos.map repoX) 41 4)), (6, (.grow (((bothTo (kindN kind) (l.take i)).2).map atX) 128 2))], 7⟩) (by kernel_rfl) ?_
     refine SO_stillC 2 1 (y := ⟨[(1, (rowOf 4 repoX l)), (6, (.ptr 1 0)), (8, (.ptr 2 0)), (10, (.int .i64 ((i : Int)))), (32, (.bool (decide ((i : Int) < (l.length : Int)))))], [(1, (.row [(.int .i64 ((bothTo (kindN kind) (l.take i)).1.kind)), (.row 4 (((bothTo (kindN kind) (l.take i)).1).repos.map repoNX).length (fun ix => (((bothTo (kindN kind) (l.take i)).1).repos.map repoNX).getD ix junk)), (.row 13 (((bothTo (kindN kind) (l.take i)).1).all.map keptX).length (fun ix => (((bothTo (kindN kind) (l.take i)).1).all.map keptX).getD ix junk)), (.smap (.slice none 0 0) (fun kq => .row 1 ((namedG ((bothTo (kindN kind) (l.take i)).1).all) kq).length (fun ix => ((namedG ((bothTo (kindN kind) (l.take i)).1).all) kq).getD ix junk)))] 92)), (2, (.row [(.int .i64 ((bothTo (kindN kind) (l.take i)).1.kind)), (.row 4 (((bothTo (kindN kind) (l.take i)).1).repos.map repoX).length (fun ix => (((bothTo (kindN kind) (l.take i)).1).repos.map repoX).getD ix junk)), (.own 6)] 107)), (6, (.grow (((bothTo (kindN kind) (l.take i)).2).map atX) 128 2))], 7⟩) (by kernel_rfl) ?_
     refine SO_stillC 2 2 (y := ⟨[(1, (rowOf 4 repoX l)), (6, (.ptr 1 0)), (8, (.ptr 2 0)), (10, (.int .i64 ((i : Int)))), (32, (.bool (decide ((i : Int) < (l.length : Int)))))], [(1, (.row [(.int .i64 ((bothTo (kindN kind) (l.take i)).1.kind)), (.row 4 (((bothTo (kindN kind) (l.take i)).1).repos.map repoNX).length (fun ix => (((bothTo (kindN kind) (l.take i)).1).repos.map repoNX).getD ix junk)), (.row 13 (((bothTo (kindN kind) (l.take i)).1).all.map keptX).length (fun ix => (((bothTo (kindN kind) (l.take i)).1).all.map keptX).getD ix junk)), (.smap (.slice none 0 0) (fun kq => .row 1 ((namedG ((bothTo (kindN kind) (l.take i)).1).all) kq).length (fun ix => ((namedG ((bothTo (kindN kind) (l.take i)).1).all) kq).getD ix junk)))] 92)), (2, (.row [(.int .i64 ((bothTo (kindN kind) (l.take i)).1.kind)), (.row 4 (((bothTo (kindN kind) (l.take i)).1).repos.map repoX).length (fun ix => (((bothTo (kindN kind) (l.take i)).1).repos.map repoX).getD ix junk)), (.row 2 (((bothTo (kindN kind) (l.take i)).2).map atX).length (fun ix => (((bothTo (kindN kind) (l.take i)).2).map atX).getD ix junk))] 107))], 7⟩) (by kernel_rfl) ?_
     refine SO_P [] [4, 5] ?_
     refine SW_ret ?_
     refine RK wR [(.fp (.agg [(.int .i64 ((bothTo (kindN kind) (l.take i)).1.kind)), (.row 4 (((bothTo (kindN kind) (l.take i)).1).repos.map repoNX).length (fun ix => (((bothTo (kindN kind) (l.take i)).1).repos.map repoNX).getD ix junk)), (.row 13 (((bothTo (kindN kind) (l.take i)).1).all.map keptX).length (fun ix => (((bothTo (kindN kind) (l.take i)).1).all.map keptX).getD ix junk)), (.smap (.slice none 0 0) (fun kq => .row 1 ((namedG ((bothTo (kindN kind) (l.take i)).1).all) kq).length (fun ix => ((namedG ((bothTo (kindN kind) (l.take i)).1).all) kq).getD ix junk)))])), (.fp (.agg [(.int .i64 ((bothTo (kindN kind) (l.take i)).1.kind)), (.row 4 (((bothTo (kindN kind) (l.take i)).1).repos.map repoX).length (fun ix => (((bothTo (kindN kind) (l.take i)).1).repos.map repoX).getD ix junk)), (.row 2 (((bothTo (kindN kind) (l.take i)).2).map atX).length (fun ix => (((bothTo (kindN kind) (l.take i)).2).map atX).getD ix junk))]))] ?_
     rw [show i = l.length from by omega, List.take_length]
     simp only [pack]
     exact (Imp.tups (ImpL.cons (Imp.fp (Imp.aggs (ImpL.cons Imp.refl (ImpL.cons (Imp.list (f := repoNX) (List.length_map _)) (ImpL.cons (Imp.list (f := keptX) (List.length_map _)) (ImpL.cons Imp.refl ImpL.nil)))))) (ImpL.cons (Imp.fp (Imp.aggs (ImpL.cons Imp.refl (ImpL.cons (Imp.list (f := repoX) (List.length_map _)) (ImpL.cons (Imp.list (f := atX) (List.length_map _)) ImpL.nil))))) ImpL.nil))).same
end Sv
end Go.Proofs.YtlfjokcbkopfeaaGreatDoor
end
section
namespace Go.Proofs.YtlfjokcbkopfeaaGreatDoor
open Go Go.RowKit
namespace Sv
attribute [local irreducible] SW SO holds
theorem en_42 : Enters Tryz.prog 42 := enters_of Tryz.func42 (by kernel_rfl) rfl
theorem en_43 : Enters Tryz.prog 43 := enters_of Tryz.func43 (by kernel_rfl) rfl
theorem en_44 : Enters Tryz.prog 44 := enters_of Tryz.func44 (by kernel_rfl) rfl
set_option maxHeartbeats 400000 in
set_option maxRecDepth 100000 in
theorem Kind_ok (st : PoolT) :
  FnV Tryz.prog 42 [(.fp (poolX st))] (.int .i64 st.kind) := by
 refine FnV_intro [.tmp 2] Tryz.func42 rfl Tryz.ntmps42 rfl rfl (fun B F hF => ?_)
 refine SW_P [] [0] ?_
 refine SW_seq ?_
 refine SW_P [] [0, 4] ?_
 refine SW_false (by kernel_rfl) ?_
 refine SW_skip ?_
 refine SW_P [] [2] ?_
 refine SW_ret ?_
 refine RK wR [(.int .i64 st.kind)] ?_
 exact Same.of_eq (by first | rfl | (simp only [pack]; simp_all))
set_option maxHeartbeats 400000 in
set_option maxRecDepth 100000 in
theorem Len_ok (st : PoolT) :
  FnV Tryz.prog 43 [(.fp (poolX st))] (.int .i64 ((st.all.length : Int))) := by
 refine FnV_intro [.tmp 2] Tryz.func43 rfl Tryz.ntmps43 rfl rfl (fun B F hF => ?_)
 refine SW_P [] [0] ?_
 refine SW_seq ?_
 refine SW_P [] [0, 4] ?_
 refine SW_false (by kernel_rfl) ?_
 refine SW_skip ?_
 refine SW_P [] [2] ?_
 refine SW_ret ?_
 refine RK wR [(.int .i64 ((st.all.length : Int)))] ?_
 exact Same.of_eq (by first | rfl | (simp only [pack]; simp_all))
set_option maxHeartbeats 400000 in
set_option maxRecDepth 100000 in
theorem Package_ok (st : PoolT) (i : Nat) (hi : i < st.all.length) (hs : (nth st.all i).1.size ≤ 4194304) :
  FnV Tryz.prog 44 [(.fp (poolX st)), (.int .i64 ((i : Int)))] (.tup [pkgX (nth st.all i).1, .int .i64 (nth st.all i).2, .int .i64 0]) := by
 refine FnV_intro [.cell 4 38, .tmp 5, .tmp 6] Tryz.func44 rfl Tryz.ntmps44 rfl rfl (fun B F hF => ?_)
 refine SW_P [] [0, 1, 4] ?_
 refine SW_seq ?_
 refine SW_block ?_
 refine SW_P [] [0, 1, 4, 7] ?_
 refine SW_false (by kernel_rfl) ?_
 obtain ⟨b1, hb1⟩ : ∃ b, b = (decide ((i : Int) < 0)) := ⟨_, rfl⟩
 obtain ⟨b2, hb2⟩ : ∃ b, b = (b1 || (decide ((st.all.length : Int) ≤ (i : Int)))) := ⟨_, rfl⟩
 refine SW_H (CS := [(5, ((!b1) = true → (!b1) = true)), (6, ((!b1) = true → (!b1) = true)), (7, ((!b1) = true → (!b1) = true)), (8, ((!b1) = true → (!b1) = true)), (9, ((!b1) = true → (!b1) = true ∧ (!b1) = true)), (10, (b1 = false → (!b1) = true))]) [15, 16, 17, 18, 19, 20, 21] [0, 1, 4, 11] [] hk0 (vk 3 14 (a := .bool (decide ((i : Int) < 0))) (b := .bool b1) (Imp.of_eq (by rw [hb1])) <| vk 11 22 (a := .bool (b1 || (decide ((st.all.length : Int) ≤ (i : Int))))) (b := .bool b2) (Imp.of_eq (by rw [hb2])) <| v0) (by refine cc _ ?_ <| cc _ ?_ <| cc _ ?_ <| cc _ ?_ <| cc _ ?_ <| cc _ ?_ c0 <;> first | omega | (simp; omega) | (simp; done) | (intros; simp_all; omega) | (intros; simp_all; done)) ?_
 refine SW_cond (q := b2) (by kernel_rfl) (fun c1 => ?_) (fun c1 => ?_)
 ·subst hb2 hb1
  try simp only [Bool.and_eq_true, Bool.or_eq_true, Bool.and_eq_false_iff, Bool.or_eq_false_iff, Bool.not_eq_true', Bool.not_eq_false', decide_eq_true_eq, decide_eq_false_iff_not] at c1
  exfalso; simp at c1; omega
 ·subst hb2 hb1
  try simp only [Bool.and_eq_true, Bool.or_eq_true, Bool.and_eq_false_iff, Bool.or_eq_false_iff, Bool.not_eq_true', Bool.not_eq_false', decide_eq_true_eq, decide_eq_false_iff_not] at c1
  refine SW_skip ?_
  refine SW_D (CS := [(5, (0 ≤ (i : Int) ∧ i < st.all.length)), (14, (0 ≤ (i : Int) ∧ i < st.all.length))]) [] [4, 5, 6] [] (hk 8 en_51 (copied_any (nth st.all i).1 (by have := (nth st.all i).1.sizes; omega) (by have := (nth st.all i).1.sizes; have := files_len (nth st.all i).1.files; omega)) <| hk0) v0 (by refine cc _ ?_ <| cc _ ?_ c0 <;> first | omega | (simp; omega) | (simp; done) | (intros; simp_all; omega) | (intros; simp_all; done)) ?_
  refine SW_ret ?_
  refine RK wR [(pkgX ((nth st.all i).1)), (.int .i64 ((nth st.all i).2)), (.int .i64 0)] ?_
  exact Same.of_eq (by first | rfl | (simp only [pack]; simp_all))
end Sv
end Go.Proofs.YtlfjokcbkopfeaaGreatDoor
end
