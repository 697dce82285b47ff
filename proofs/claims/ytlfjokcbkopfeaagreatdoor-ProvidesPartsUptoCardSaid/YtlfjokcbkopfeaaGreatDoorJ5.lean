/- The texts IdsM, Ref1, PartP, ProvL3, OpenD, OpenV, OpenR of the proof, joined. Each says at its theorems what it proves. -/
import Derived.Test.YtlfjokcbkopfeaaGreatDoorJ4
import Derived.Test.YtlfjokcbkopfeaaGreatDoorRows
import Derived.ChangeArms
import Derived.WideShapes
set_option linter.unusedSimpArgs false
set_option linter.unusedVariables false
section
namespace Go.Proofs.YtlfjokcbkopfeaaGreatDoor
open Go Go.RowKit
namespace Sv
attribute [local irreducible] SW SO holds
theorem en_69 : Enters Tryz.prog 69 := enters_of Tryz.func69 (by kernel_rfl) rfl
theorem en_72 : Enters Tryz.prog 72 := enters_of Tryz.func72 (by kernel_rfl) rfl
theorem en_23 : Enters Tryz.prog 23 := enters_of Tryz.func23 (by kernel_rfl) rfl
theorem en_24 : Enters Tryz.prog 24 := enters_of Tryz.func24 (by kernel_rfl) rfl
theorem en_70 : Enters Tryz.prog 70 := enters_of Tryz.func70 (by kernel_rfl) rfl
theorem en_71 : Enters Tryz.prog 71 := enters_of Tryz.func71 (by kernel_rfl) rfl
theorem first_txt (x y : List Int) : (decide ((y.length : Int) = 0) || (decide (0 < (x.length : Int)) && decide (nth x 0 ≤ nth y 0))) = firstB x y := by
  unfold firstB
  cases x <;> cases y <;> simp
  all_goals omega
theorem first_len {x y : List Int} (h : ¬(x = [] ∧ y = [])) (k : firstB x y = true) : 1 ≤ x.length := by
  cases x <;> cases y <;> simp_all [firstB]
theorem first_or {x y : List Int} (h : ¬(x = [] ∧ y = [])) (k : firstB x y = false) : firstB y x = true := by
  cases x <;> cases y <;> simp_all [firstB]; omega
theorem merge_next {p : Bool → Bool → Bool} {g : Nat} {x y : List Int} {u v : Bool} (hg : 1 ≤ g) (h : ¬(x = [] ∧ y = [])) (hu : firstB x y = u) (hv : firstB y x = v) :
    mergeZ p g x y = (if p u v = true then [if v = true then nth y 0 else nth x 0] else []) ++ mergeZ p (g - 1) (if u = true then x.drop 1 else x) (if v = true then y.drop 1 else y) := by
  obtain ⟨n, rfl⟩ : ∃ n, g = n + 1 := ⟨g - 1, by omega⟩
  rw [mergeZ, if_neg h, hu, hv]; rfl
theorem merge_nil (p : Bool → Bool → Bool) (g : Nat) : mergeZ p g [] [] = [] := by cases g <;> rfl
theorem drop_imp {x : List Int} {n : Nat} (h : 1 ≤ x.length ∧ n = x.length - 1) : Imp (.row 1 n (fun kx => .int .i64 (nth x (1 + kx)))) (nums (x.drop 1)) := by
  obtain ⟨h1, rfl⟩ := h
  have e : x.length - 1 = (x.drop 1).length := by simp
  rw [e]
  exact Imp.row fun i hi => Imp.of_eq (by simp [nth, List.getElem?_drop, Nat.add_comm])
set_option maxHeartbeats 400000 in
set_option maxRecDepth 100000 in
theorem meetC_ok (a b : Bool) :
    FnV Tryz.prog 70 [(.bool (a)), (.bool (b))] (.bool (a && b)) := by
  refine FnV_intro [.tmp 4] Tryz.func70 rfl Tryz.ntmps70 rfl rfl (fun B F hF => ?_)
  refine SW_P [] [0, 1] ?_
  refine SW_H [7] [4] [] hk0 v0 (cc 3 (p := (a = true → a = true)) (by first | omega | (simp; omega) | (simp; done) | (intros; simp_all; omega) | (intros; simp_all; done)) <| c0) ?_
  refine SW_ret ?_
  refine RK wR [(.bool (a && b))] ?_
  exact Same.of_eq (by first | rfl | (simp only [pack]; simp_all))
set_option maxHeartbeats 400000 in
set_option maxRecDepth 100000 in
theorem minusC_ok (a b : Bool) :
    FnV Tryz.prog 71 [(.bool (a)), (.bool (b))] (.bool (!b)) := by
  refine FnV_intro [.tmp 4] Tryz.func71 rfl Tryz.ntmps71 rfl rfl (fun B F hF => ?_)
  refine SW_P [] [1] ?_
  refine SW_P [] [4] ?_
  refine SW_ret ?_
  refine RK wR [(.bool (!b))] ?_
  exact Same.of_eq (by first | rfl | (simp only [pack]; simp_all))
set_option maxHeartbeats 1000000 in
set_option maxRecDepth 100000 in
theorem merged_ok (a b : List Int) (q : AV) (p : Bool → Bool → Bool) (ha : a.length ≤ 4194304) (hb : b.length ≤ 4194304) (hq : ∀ u v, FunV Tryz.prog q [.bool u, .bool v] (.bool (p u v))) :
    FnV Tryz.prog 69 [(nums a), (nums b), (.clo q)] (nums (mergeS p a b)) := by
  have h1 := setZ_len a
  have h2 := setZ_len b
  refine FnV_intro [.tmp 6] Tryz.func69 rfl Tryz.ntmps69 rfl rfl (fun B F hF => ?_)
  refine SW_P [] [0, 1, 2] ?_
  refine SW_H [] [0, 1, 2] [] (hk 1 en_72 (idsSort_ok a (by omega)) <| hk 3 en_72 (idsSort_ok b (by omega)) <| hk0) v0 c0 ?_
  refine SW_P [] [0, 1, 2, 7] ?_
  refine SW_seq ?_
  refine SW_block ?_
  refine SW_thaw 3 1 7 (y := ⟨[(0, (nums (setZ a))), (1, (nums (setZ b))), (2, (.clo q)), (7, (.own 0))], [(0, (.grow [] 3 1))], 1⟩) (by kernel_rfl) (by kernel_rfl) ?_
  refine SW_L (fun g y => ∃ (fu : Nat) (x k zs : List Int), x.length ≤ (setZ a).length ∧ k.length ≤ (setZ b).length ∧ x.length + k.length < fu ∧ zs.length + (x.length + k.length) ≤ (setZ a).length + (setZ b).length ∧ mergeZ p ((setZ a).length + (setZ b).length + 1) (setZ a) (setZ b) = zs ++ mergeZ p fu x k ∧ y = ⟨[(0, (nums x)), (1, (nums k)), (2, (.clo q)), (7, (.own 0))], [(0, (.grow (zs.map (AV.int .i64)) 3 1))], 1⟩ ∧ g = fu) [0, 1, 2, 7] 1 _ (by omega) ⟨(setZ a).length + (setZ b).length + 1, (setZ a), (setZ b), [], (by omega), (by omega), (by omega), (by simp), (by rfl), (by kernel_rfl), rfl⟩ ?_
  rintro g1 y1 ⟨fu, x, k, zs, f1_1, f1_2, f1_3, f1_4, f1_5, rfl, rfl⟩
  refine SW_seq ?_
  obtain ⟨b1, hb1⟩ : ∃ b, b = (decide (0 < (x.length : Int))) := ⟨_, rfl⟩
  refine SW_H (CS := [(5, ((!b1) = true → (!b1) = true)), (6, ((!b1) = true → (!b1) = true)), (7, (b1 = false → (!b1) = true))]) [19, 20, 21] [0, 1, 2, 7, 22] [] hk0 (vk 4 18 (a := .bool (decide (0 < (x.length : Int)))) (b := .bool b1) (Imp.of_eq (by rw [hb1])) <| v0) (by refine cc _ ?_ <| cc _ ?_ <| cc _ ?_ c0 <;> first | omega | (simp; omega) | (simp; done) | (intros; simp_all; omega) | (intros; simp_all; done)) ?_
  refine SW_cond (q := b1 || (decide (0 < (k.length : Int)))) (by kernel_rfl) (fun c1 => ?_) (fun c1 => ?_)
  · skip
    subst hb1
    try simp only [Bool.and_eq_true, Bool.or_eq_true, Bool.and_eq_false_iff, Bool.or_eq_false_iff, Bool.not_eq_true', Bool.not_eq_false', decide_eq_true_eq, decide_eq_false_iff_not] at c1
    have hne : ¬(x = [] ∧ k = []) := by rintro ⟨rfl, rfl⟩; simp at c1
    refine SW_skip ?_
    refine SW_block ?_
    have qh1 : ((((!(decide ((k.length : Int) = 0))) && (decide (0 < (x.length : Int)))) = true → (((!(decide ((k.length : Int) = 0))) && (decide (0 < (x.length : Int)))) = true) ∧ (0 ≤ (0 : Int) ∧ 0 < k.length))) := by
      intro hq; simp only [Bool.and_eq_true, Bool.not_eq_true', decide_eq_false_iff_not, decide_eq_true_eq] at hq ⊢; omega
    refine SW_D [27, 28, 29, 30, 31, 32, 33, 34, 35, 36, 37, 38] [0, 1, 2, 7, 8] [] hk0 (vk 17 39 (a := (.bool ((decide ((k.length : Int) = 0)) || ((decide (0 < (x.length : Int))) && (decide ((nth x 0) ≤ (nth k 0))))))) (b := (.bool (firstB x k))) (Imp.of_eq (congrArg AV.bool (first_txt x k))) <| v0) (cc 5 (p := ((!(decide ((k.length : Int) = 0))) = true → (!(decide ((k.length : Int) = 0))) = true)) (by first | omega | (simp; omega) | (simp; done) | (intros; simp_all; omega) | (intros; simp_all; done)) <| cc 6 (p := ((!(decide ((k.length : Int) = 0))) = true → (!(decide ((k.length : Int) = 0))) = true)) (by first | omega | (simp; omega) | (simp; done) | (intros; simp_all; omega) | (intros; simp_all; done)) <| cc 7 (p := ((!(decide ((k.length : Int) = 0))) = true → (!(decide ((k.length : Int) = 0))) = true)) (by first | omega | (simp; omega) | (simp; done) | (intros; simp_all; omega) | (intros; simp_all; done)) <| cc 9 (p := (((!(decide ((k.length : Int) = 0))) && (decide (0 < (x.length : Int)))) = true → (((!(decide ((k.length : Int) = 0))) && (decide (0 < (x.length : Int)))) = true) ∧ (0 ≤ (0 : Int) ∧ 0 < x.length))) (by first | omega | (simp; omega) | (simp; done) | (intros; simp_all; omega) | (intros; simp_all; done)) <| cc 10 (p := (((!(decide ((k.length : Int) = 0))) && (decide (0 < (x.length : Int)))) = true → ((!(decide ((k.length : Int) = 0))) && (decide (0 < (x.length : Int)))) = true)) (by first | omega | (simp; omega) | (simp; done) | (intros; simp_all; omega) | (intros; simp_all; done)) <| cc 12 (p := (((!(decide ((k.length : Int) = 0))) && (decide (0 < (x.length : Int)))) = true → (((!(decide ((k.length : Int) = 0))) && (decide (0 < (x.length : Int)))) = true) ∧ (0 ≤ (0 : Int) ∧ 0 < k.length))) qh1 <| cc 13 (p := (((!(decide ((k.length : Int) = 0))) && (decide (0 < (x.length : Int)))) = true → ((!(decide ((k.length : Int) = 0))) && (decide (0 < (x.length : Int)))) = true)) (by first | omega | (simp; omega) | (simp; done) | (intros; simp_all; omega) | (intros; simp_all; done)) <| cc 14 (p := (((!(decide ((k.length : Int) = 0))) && (decide (0 < (x.length : Int)))) = true → ((!(decide ((k.length : Int) = 0))) && (decide (0 < (x.length : Int)))) = true ∧ ((!(decide ((k.length : Int) = 0))) && (decide (0 < (x.length : Int)))) = true)) (by first | omega | (simp; omega) | (simp; done) | (intros; simp_all; omega) | (intros; simp_all; done)) <| cc 15 (p := ((!(decide ((k.length : Int) = 0))) = true → ((!(decide ((k.length : Int) = 0))) = true) ∧ ((decide (0 < (x.length : Int))) = true → ((!(decide ((k.length : Int) = 0))) && (decide (0 < (x.length : Int)))) = true))) (by first | omega | (simp; omega) | (simp; done) | (intros; simp_all; omega) | (intros; simp_all; done)) <| cc 16 (p := ((decide ((k.length : Int) = 0)) = false → (!(decide ((k.length : Int) = 0))) = true)) (by first | omega | (simp; omega) | (simp; done) | (intros; simp_all; omega) | (intros; simp_all; done)) <| c0) ?_
    have qh2 : ((((!(decide ((x.length : Int) = 0))) && (decide (0 < (k.length : Int)))) = true → (((!(decide ((x.length : Int) = 0))) && (decide (0 < (k.length : Int)))) = true) ∧ (0 ≤ (0 : Int) ∧ 0 < x.length))) := by
      intro hq; simp only [Bool.and_eq_true, Bool.not_eq_true', decide_eq_false_iff_not, decide_eq_true_eq] at hq ⊢; omega
    refine SW_D [44, 45, 46, 47, 48, 49, 50, 51, 52, 53, 54, 55] [0, 1, 2, 7, 8, 9] [] hk0 (vk 17 56 (a := (.bool ((decide ((x.length : Int) = 0)) || ((decide (0 < (k.length : Int))) && (decide ((nth k 0) ≤ (nth x 0))))))) (b := (.bool (firstB k x))) (Imp.of_eq (congrArg AV.bool (first_txt k x))) <| v0) (cc 5 (p := ((!(decide ((x.length : Int) = 0))) = true → (!(decide ((x.length : Int) = 0))) = true)) (by first | omega | (simp; omega) | (simp; done) | (intros; simp_all; omega) | (intros; simp_all; done)) <| cc 6 (p := ((!(decide ((x.length : Int) = 0))) = true → (!(decide ((x.length : Int) = 0))) = true)) (by first | omega | (simp; omega) | (simp; done) | (intros; simp_all; omega) | (intros; simp_all; done)) <| cc 7 (p := ((!(decide ((x.length : Int) = 0))) = true → (!(decide ((x.length : Int) = 0))) = true)) (by first | omega | (simp; omega) | (simp; done) | (intros; simp_all; omega) | (intros; simp_all; done)) <| cc 9 (p := (((!(decide ((x.length : Int) = 0))) && (decide (0 < (k.length : Int)))) = true → (((!(decide ((x.length : Int) = 0))) && (decide (0 < (k.length : Int)))) = true) ∧ (0 ≤ (0 : Int) ∧ 0 < k.length))) (by first | omega | (simp; omega) | (simp; done) | (intros; simp_all; omega) | (intros; simp_all; done)) <| cc 10 (p := (((!(decide ((x.length : Int) = 0))) && (decide (0 < (k.length : Int)))) = true → ((!(decide ((x.length : Int) = 0))) && (decide (0 < (k.length : Int)))) = true)) (by first | omega | (simp; omega) | (simp; done) | (intros; simp_all; omega) | (intros; simp_all; done)) <| cc 12 (p := (((!(decide ((x.length : Int) = 0))) && (decide (0 < (k.length : Int)))) = true → (((!(decide ((x.length : Int) = 0))) && (decide (0 < (k.length : Int)))) = true) ∧ (0 ≤ (0 : Int) ∧ 0 < x.length))) qh2 <| cc 13 (p := (((!(decide ((x.length : Int) = 0))) && (decide (0 < (k.length : Int)))) = true → ((!(decide ((x.length : Int) = 0))) && (decide (0 < (k.length : Int)))) = true)) (by first | omega | (simp; omega) | (simp; done) | (intros; simp_all; omega) | (intros; simp_all; done)) <| cc 14 (p := (((!(decide ((x.length : Int) = 0))) && (decide (0 < (k.length : Int)))) = true → ((!(decide ((x.length : Int) = 0))) && (decide (0 < (k.length : Int)))) = true ∧ ((!(decide ((x.length : Int) = 0))) && (decide (0 < (k.length : Int)))) = true)) (by first | omega | (simp; omega) | (simp; done) | (intros; simp_all; omega) | (intros; simp_all; done)) <| cc 15 (p := ((!(decide ((x.length : Int) = 0))) = true → ((!(decide ((x.length : Int) = 0))) = true) ∧ ((decide (0 < (k.length : Int))) = true → ((!(decide ((x.length : Int) = 0))) && (decide (0 < (k.length : Int)))) = true))) (by first | omega | (simp; omega) | (simp; done) | (intros; simp_all; omega) | (intros; simp_all; done)) <| cc 16 (p := ((decide ((x.length : Int) = 0)) = false → (!(decide ((x.length : Int) = 0))) = true)) (by first | omega | (simp; omega) | (simp; done) | (intros; simp_all; omega) | (intros; simp_all; done)) <| c0) ?_
    refine SW_P [] [0, 1, 2, 7, 8, 9, 10] ?_
    refine SW_seq ?_
    refine SW_P [] [0, 1, 2, 7, 8, 9, 10, 57] ?_
    refine SW_cond (q := firstB x k) (by kernel_rfl) (fun c2 => ?_) (fun c2 => ?_)
    · try simp only [Bool.and_eq_true, Bool.or_eq_true, Bool.and_eq_false_iff, Bool.or_eq_false_iff, Bool.not_eq_true', Bool.not_eq_false', decide_eq_true_eq, decide_eq_false_iff_not] at c2
      have h1x := first_len hne c2
      refine SW_DA (CS := [(1, (0 ≤ (0 : Int) ∧ 0 < x.length)), (4, (0 ≤ (1 : Int) ∧ (1 : Int) ≤ (x.length : Int) ∧ (x.length : Int) ≤ (x.length : Int)))]) [] [0, 1, 2, 7, 8, 9, 10] [] hk0 (vk 6 62 (a := (.row 1 (x.length - 1) (fun kx => (.int .i64 (nth x (1 + kx)))))) (b := (nums (x.drop 1))) (drop_imp (by omega)) <| v0) (by refine cc _ ?_ <| cc _ ?_ c0 <;> first | omega | (simp; omega) | (simp; done) | (intros; simp_all; omega) | (intros; simp_all; done)) ?_
      refine SW_seq ?_
      refine SW_P [] [0, 1, 2, 7, 8, 9, 10, 63] ?_
      refine SW_cond (q := firstB k x) (by kernel_rfl) (fun c3 => ?_) (fun c3 => ?_)
      · try simp only [Bool.and_eq_true, Bool.or_eq_true, Bool.and_eq_false_iff, Bool.or_eq_false_iff, Bool.not_eq_true', Bool.not_eq_false', decide_eq_true_eq, decide_eq_false_iff_not] at c3
        have h1y := first_len (fun q => hne ⟨q.2, q.1⟩) c3
        refine SW_DA (CS := [(1, (0 ≤ (0 : Int) ∧ 0 < k.length)), (4, (0 ≤ (1 : Int) ∧ (1 : Int) ≤ (k.length : Int) ∧ (k.length : Int) ≤ (k.length : Int)))]) [] [0, 1, 2, 7, 8, 9, 10] [] hk0 (vk 6 68 (a := (.row 1 (k.length - 1) (fun kx => (.int .i64 (nth k (1 + kx)))))) (b := (nums (k.drop 1))) (drop_imp (by omega)) <| v0) (by refine cc _ ?_ <| cc _ ?_ c0 <;> first | omega | (simp; omega) | (simp; done) | (intros; simp_all; omega) | (intros; simp_all; done)) ?_
        refine SW_seq ?_
        refine SW_reg ?_
        refine SO_H 3 0 [] [0, 1, 2, 7, 10, 69, 70, 71] [] hk0 v0 c0 ?_
        refine SO_callA (s' := [(0, (nums (x.drop 1))), (1, (nums (k.drop 1))), (2, (.clo q)), (7, (.own 0)), (10, (.int .i64 (nth k 0))), (69, (.clo q)), (70, (.bool (firstB x k))), (71, (.bool (firstB k x))), (72, (.bool (p ((firstB x k)) ((firstB k x)))))]) (a := (.clo q)) (al := [(.bool (firstB x k)), (.bool (firstB k x))]) (r := (.bool (p ((firstB x k)) ((firstB k x))))) (by kernel_rfl) (by kernel_rfl) (by kernel_rfl) (by kernel_rfl) (by kernel_rfl) ((hq _ _).clo) (by kernel_rfl) ?_
        refine SO_nil ?_
        refine SW_cond (q := p ((firstB x k)) ((firstB k x))) (by kernel_rfl) (fun c4 => ?_) (fun c4 => ?_)
        · try simp only [Bool.and_eq_true, Bool.or_eq_true, Bool.and_eq_false_iff, Bool.or_eq_false_iff, Bool.not_eq_true', Bool.not_eq_false', decide_eq_true_eq, decide_eq_false_iff_not] at c4
          refine SW_reg ?_
          refine SO_HA 0 [] [0, 1, 2, 7] [] hk0 v0 (cc 3 (p := (((zs.map (AV.int .i64)).length + 1) * 8 ≤ 140737488355328)) (by first | omega | (simp; omega) | (simp; done) | (intros; simp_all; omega) | (intros; simp_all; done)) <| c0) ?_
          refine ⟨by kernel_rfl, _, ?_, g1 - 1, (x.drop 1), (k.drop 1), zs ++ [nth k 0], ?_, ?_, ?_, ?_, ?_, (Eq.trans (b := (⟨[(0, (nums (x.drop 1))), (1, (nums (k.drop 1))), (2, (.clo q)), (7, (.own 0))], [(0, (.grow ((zs.map (AV.int .i64)) ++ ([(.int .i64 (nth k 0))] : List AV)) 3 1))], 1⟩ : St)) (by kernel_rfl) (by rw [List.map_append] <;> kernel_rfl)), rfl⟩
          · omega
          · (try rw [List.length_drop]); omega
          · (try rw [List.length_drop]); omega
          · (repeat rw [List.length_drop]); omega
          · (try rw [List.length_append, List.length_singleton]); (repeat rw [List.length_drop]); omega
          · rw [c2, c3] at c4
            rw [f1_5, merge_next (by omega) hne c2 c3]
            simp [c4]
        · try simp only [Bool.and_eq_true, Bool.or_eq_true, Bool.and_eq_false_iff, Bool.or_eq_false_iff, Bool.not_eq_true', Bool.not_eq_false', decide_eq_true_eq, decide_eq_false_iff_not] at c4
          refine SW_skip ?_
          refine ⟨by kernel_rfl, _, ?_, g1 - 1, (x.drop 1), (k.drop 1), zs, ?_, ?_, ?_, ?_, ?_, (by kernel_rfl), rfl⟩
          · omega
          · (try rw [List.length_drop]); omega
          · (try rw [List.length_drop]); omega
          · (repeat rw [List.length_drop]); omega
          · (try rw [List.length_append, List.length_singleton]); (repeat rw [List.length_drop]); omega
          · rw [c2, c3] at c4
            rw [f1_5, merge_next (by omega) hne c2 c3]
            simp [c4]
      · try simp only [Bool.and_eq_true, Bool.or_eq_true, Bool.and_eq_false_iff, Bool.or_eq_false_iff, Bool.not_eq_true', Bool.not_eq_false', decide_eq_true_eq, decide_eq_false_iff_not] at c3
        refine SW_skip ?_
        refine SW_seq ?_
        refine SW_reg ?_
        refine SO_H 3 0 [] [0, 1, 2, 7, 10, 69, 70, 71] [] hk0 v0 c0 ?_
        refine SO_callA (s' := [(0, (nums (x.drop 1))), (1, (nums k)), (2, (.clo q)), (7, (.own 0)), (10, (.int .i64 (nth x 0))), (69, (.clo q)), (70, (.bool (firstB x k))), (71, (.bool (firstB k x))), (72, (.bool (p ((firstB x k)) ((firstB k x)))))]) (a := (.clo q)) (al := [(.bool (firstB x k)), (.bool (firstB k x))]) (r := (.bool (p ((firstB x k)) ((firstB k x))))) (by kernel_rfl) (by kernel_rfl) (by kernel_rfl) (by kernel_rfl) (by kernel_rfl) ((hq _ _).clo) (by kernel_rfl) ?_
        refine SO_nil ?_
        refine SW_cond (q := p ((firstB x k)) ((firstB k x))) (by kernel_rfl) (fun c5 => ?_) (fun c5 => ?_)
        · try simp only [Bool.and_eq_true, Bool.or_eq_true, Bool.and_eq_false_iff, Bool.or_eq_false_iff, Bool.not_eq_true', Bool.not_eq_false', decide_eq_true_eq, decide_eq_false_iff_not] at c5
          refine SW_reg ?_
          refine SO_HA 0 [] [0, 1, 2, 7] [] hk0 v0 (cc 3 (p := (((zs.map (AV.int .i64)).length + 1) * 8 ≤ 140737488355328)) (by first | omega | (simp; omega) | (simp; done) | (intros; simp_all; omega) | (intros; simp_all; done)) <| c0) ?_
          refine ⟨by kernel_rfl, _, ?_, g1 - 1, (x.drop 1), k, zs ++ [nth x 0], ?_, ?_, ?_, ?_, ?_, (Eq.trans (b := (⟨[(0, (nums (x.drop 1))), (1, (nums k)), (2, (.clo q)), (7, (.own 0))], [(0, (.grow ((zs.map (AV.int .i64)) ++ ([(.int .i64 (nth x 0))] : List AV)) 3 1))], 1⟩ : St)) (by kernel_rfl) (by rw [List.map_append] <;> kernel_rfl)), rfl⟩
          · omega
          · (try rw [List.length_drop]); omega
          · (try rw [List.length_drop]); omega
          · (repeat rw [List.length_drop]); omega
          · (try rw [List.length_append, List.length_singleton]); (repeat rw [List.length_drop]); omega
          · rw [c2, c3] at c5
            rw [f1_5, merge_next (by omega) hne c2 c3]
            simp [c5]
        · try simp only [Bool.and_eq_true, Bool.or_eq_true, Bool.and_eq_false_iff, Bool.or_eq_false_iff, Bool.not_eq_true', Bool.not_eq_false', decide_eq_true_eq, decide_eq_false_iff_not] at c5
          refine SW_skip ?_
          refine ⟨by kernel_rfl, _, ?_, g1 - 1, (x.drop 1), k, zs, ?_, ?_, ?_, ?_, ?_, (by kernel_rfl), rfl⟩
          · omega
          · (try rw [List.length_drop]); omega
          · (try rw [List.length_drop]); omega
          · (repeat rw [List.length_drop]); omega
          · (try rw [List.length_append, List.length_singleton]); (repeat rw [List.length_drop]); omega
          · rw [c2, c3] at c5
            rw [f1_5, merge_next (by omega) hne c2 c3]
            simp [c5]
    · try simp only [Bool.and_eq_true, Bool.or_eq_true, Bool.and_eq_false_iff, Bool.or_eq_false_iff, Bool.not_eq_true', Bool.not_eq_false', decide_eq_true_eq, decide_eq_false_iff_not] at c2
      refine SW_skip ?_
      refine SW_seq ?_
      refine SW_P [] [0, 1, 2, 7, 8, 9, 10, 63] ?_
      refine SW_cond (q := firstB k x) (by kernel_rfl) (fun c6 => ?_) (fun c6 => ?_)
      · try simp only [Bool.and_eq_true, Bool.or_eq_true, Bool.and_eq_false_iff, Bool.or_eq_false_iff, Bool.not_eq_true', Bool.not_eq_false', decide_eq_true_eq, decide_eq_false_iff_not] at c6
        have h1y := first_len (fun q => hne ⟨q.2, q.1⟩) c6
        refine SW_DA (CS := [(1, (0 ≤ (0 : Int) ∧ 0 < k.length)), (4, (0 ≤ (1 : Int) ∧ (1 : Int) ≤ (k.length : Int) ∧ (k.length : Int) ≤ (k.length : Int)))]) [] [0, 1, 2, 7, 8, 9, 10] [] hk0 (vk 6 68 (a := (.row 1 (k.length - 1) (fun kx => (.int .i64 (nth k (1 + kx)))))) (b := (nums (k.drop 1))) (drop_imp (by omega)) <| v0) (by refine cc _ ?_ <| cc _ ?_ c0 <;> first | omega | (simp; omega) | (simp; done) | (intros; simp_all; omega) | (intros; simp_all; done)) ?_
        refine SW_seq ?_
        refine SW_reg ?_
        refine SO_H 3 0 [] [0, 1, 2, 7, 10, 69, 70, 71] [] hk0 v0 c0 ?_
        refine SO_callA (s' := [(0, (nums x)), (1, (nums (k.drop 1))), (2, (.clo q)), (7, (.own 0)), (10, (.int .i64 (nth k 0))), (69, (.clo q)), (70, (.bool (firstB x k))), (71, (.bool (firstB k x))), (72, (.bool (p ((firstB x k)) ((firstB k x)))))]) (a := (.clo q)) (al := [(.bool (firstB x k)), (.bool (firstB k x))]) (r := (.bool (p ((firstB x k)) ((firstB k x))))) (by kernel_rfl) (by kernel_rfl) (by kernel_rfl) (by kernel_rfl) (by kernel_rfl) ((hq _ _).clo) (by kernel_rfl) ?_
        refine SO_nil ?_
        refine SW_cond (q := p ((firstB x k)) ((firstB k x))) (by kernel_rfl) (fun c7 => ?_) (fun c7 => ?_)
        · try simp only [Bool.and_eq_true, Bool.or_eq_true, Bool.and_eq_false_iff, Bool.or_eq_false_iff, Bool.not_eq_true', Bool.not_eq_false', decide_eq_true_eq, decide_eq_false_iff_not] at c7
          refine SW_reg ?_
          refine SO_HA 0 [] [0, 1, 2, 7] [] hk0 v0 (cc 3 (p := (((zs.map (AV.int .i64)).length + 1) * 8 ≤ 140737488355328)) (by first | omega | (simp; omega) | (simp; done) | (intros; simp_all; omega) | (intros; simp_all; done)) <| c0) ?_
          refine ⟨by kernel_rfl, _, ?_, g1 - 1, x, (k.drop 1), zs ++ [nth k 0], ?_, ?_, ?_, ?_, ?_, (Eq.trans (b := (⟨[(0, (nums x)), (1, (nums (k.drop 1))), (2, (.clo q)), (7, (.own 0))], [(0, (.grow ((zs.map (AV.int .i64)) ++ ([(.int .i64 (nth k 0))] : List AV)) 3 1))], 1⟩ : St)) (by kernel_rfl) (by rw [List.map_append] <;> kernel_rfl)), rfl⟩
          · omega
          · (try rw [List.length_drop]); omega
          · (try rw [List.length_drop]); omega
          · (repeat rw [List.length_drop]); omega
          · (try rw [List.length_append, List.length_singleton]); (repeat rw [List.length_drop]); omega
          · rw [c2, c6] at c7
            rw [f1_5, merge_next (by omega) hne c2 c6]
            simp [c7]
        · try simp only [Bool.and_eq_true, Bool.or_eq_true, Bool.and_eq_false_iff, Bool.or_eq_false_iff, Bool.not_eq_true', Bool.not_eq_false', decide_eq_true_eq, decide_eq_false_iff_not] at c7
          refine SW_skip ?_
          refine ⟨by kernel_rfl, _, ?_, g1 - 1, x, (k.drop 1), zs, ?_, ?_, ?_, ?_, ?_, (by kernel_rfl), rfl⟩
          · omega
          · (try rw [List.length_drop]); omega
          · (try rw [List.length_drop]); omega
          · (repeat rw [List.length_drop]); omega
          · (try rw [List.length_append, List.length_singleton]); (repeat rw [List.length_drop]); omega
          · rw [c2, c6] at c7
            rw [f1_5, merge_next (by omega) hne c2 c6]
            simp [c7]
      · try simp only [Bool.and_eq_true, Bool.or_eq_true, Bool.and_eq_false_iff, Bool.or_eq_false_iff, Bool.not_eq_true', Bool.not_eq_false', decide_eq_true_eq, decide_eq_false_iff_not] at c6
        have := first_or hne c2
        rw [c6] at this
        cases this
  · skip
    subst hb1
    try simp only [Bool.and_eq_true, Bool.or_eq_true, Bool.and_eq_false_iff, Bool.or_eq_false_iff, Bool.not_eq_true', Bool.not_eq_false', decide_eq_true_eq, decide_eq_false_iff_not] at c1
    refine SW_exit ?_
    refine SW_P [] [6] ?_
    refine SW_ret ?_
    refine RK wR [(.row 1 (zs.map (AV.int .i64)).length (fun ix => (zs.map (AV.int .i64)).getD ix junk))] ?_
    simp only [pack]
    exact Same.grown (f := AV.int .i64) (l := mergeS p a b) (by
      obtain rfl : x = [] := List.length_eq_zero_iff.1 (by omega)
      obtain rfl : k = [] := List.length_eq_zero_iff.1 (by omega)
      unfold mergeS
      rw [f1_5, merge_nil, List.append_nil])
set_option maxHeartbeats 400000 in
set_option maxRecDepth 100000 in
theorem idsMeet_ok (a b : List Int) (ha : a.length ≤ 4194304) (hb : b.length ≤ 4194304) :
    FnV Tryz.prog 23 [(nums a), (nums b)] (nums (meetZ a b)) := by
  refine FnV_intro [.tmp 4] Tryz.func23 rfl Tryz.ntmps23 rfl rfl (fun B F hF => ?_)
  refine SW_P [] [0, 1] ?_
  refine SW_H [] [4] [] (hk 2 (al := [(nums a), (nums b), (.fn 70 [] [])]) en_69 (((merged_ok a b (.fn 70 [] []) (fun u v => u && v) ha hb (fun u v => FunV.of (by exact en_70) (meetC_ok u v))).of_args (ImpL.cons Imp.refl (ImpL.cons Imp.refl (ImpL.cons (Imp.clo rfl) ImpL.nil)))).to (Same.of_eq (by rw [meetS]))) <| hk0) v0 c0 ?_
  refine SW_ret ?_
  refine RK wR [(nums (meetZ a b))] ?_
  exact Same.of_eq (by first | rfl | (simp only [pack]; simp_all))
set_option maxHeartbeats 400000 in
set_option maxRecDepth 100000 in
theorem idsMinus_ok (a b : List Int) (ha : a.length ≤ 4194304) (hb : b.length ≤ 4194304) :
    FnV Tryz.prog 24 [(nums a), (nums b)] (nums (minusZ a b)) := by
  refine FnV_intro [.tmp 4] Tryz.func24 rfl Tryz.ntmps24 rfl rfl (fun B F hF => ?_)
  refine SW_P [] [0, 1] ?_
  refine SW_H [] [4] [] (hk 2 (al := [(nums a), (nums b), (.fn 71 [] [])]) en_69 (((merged_ok a b (.fn 71 [] []) (fun _ v => !v) ha hb (fun u v => FunV.of (by exact en_71) (minusC_ok u v))).of_args (ImpL.cons Imp.refl (ImpL.cons Imp.refl (ImpL.cons (Imp.clo rfl) ImpL.nil)))).to (Same.of_eq (by rw [minusS]))) <| hk0) v0 c0 ?_
  refine SW_ret ?_
  refine RK wR [(nums (minusZ a b))] ?_
  exact Same.of_eq (by first | rfl | (simp only [pack]; simp_all))
end Sv
end Go.Proofs.YtlfjokcbkopfeaaGreatDoor
end
section
namespace Go.Proofs.YtlfjokcbkopfeaaGreatDoor
open Go Go.RowKit
namespace Sv
attribute [local irreducible] SW SO holds
theorem en_17 : Enters Tryz.prog 17 := enters_of Tryz.func17 (by kernel_rfl) rfl
theorem sameI_yes {a b : List Int} (hl : a.length = b.length) (h : ∀ j, j < a.length → nth a j = nth b j) : decide (a = b) = true := decide_eq_true (List.ext_getElem hl fun j h1 h2 => by
  have := h j h1
  rwa [nth_at h1, nth_at h2] at this)
theorem sameI_no {a b : List Int} {i : Nat} (h : ¬ nth a i = nth b i) : decide (a = b) = false := decide_eq_false fun e => h (by rw [e])
theorem sameI_len {a b : List Int} (h : ¬ a.length = b.length) : decide (a = b) = false := decide_eq_false fun e => h (by rw [e])
set_option maxHeartbeats 400000 in
set_option maxRecDepth 100000 in
theorem rSame_ok (a b : List Int) (ha : a.length ≤ 4611686018427) :
    FnV Tryz.prog 17 [(nums a), (nums b)] (.bool (decide (a = b))) := by
  refine FnV_intro [.tmp 4] Tryz.func17 rfl Tryz.ntmps17 rfl rfl (fun B F hF => ?_)
  refine SW_P [] [0, 1] ?_
  refine SW_seq ?_
  refine SW_P [] [0, 1, 10] ?_
  refine SW_ifn (p := (a.length : Int) = (b.length : Int)) (by kernel_rfl) (fun c1 => ?_) (fun c1 => ?_)
  · skip
    refine SW_P [] [4] ?_
    refine SW_ret ?_
    refine RK wR [(.bool (false))] ?_
    exact Same.of_eq (by rw [sameI_len (by omega)]; rfl)
  · skip
    refine SW_skip ?_
    refine SW_seq ?_
    refine SW_P [] [0, 1, 5] ?_
    refine SW_block ?_
    refine SW_L (fun g y => ∃ (i : Nat), i ≤ a.length ∧ (∀ j, j < i → nth a j = nth b j) ∧ y = ⟨[(0, (nums a)), (1, (nums b)), (5, (.int .i64 ((i : Int))))], [], 0⟩ ∧ g = a.length - i) [0, 1, 5] 0 _ (by omega) ⟨0, (by omega), (by exact fun j hj => by omega), (by kernel_rfl), rfl⟩ ?_
    rintro g1 y1 ⟨i, f1_1, f1_2, rfl, rfl⟩
    refine SW_seq ?_
    refine SW_P [] [0, 1, 5, 14] ?_
    refine SW_if (p := (i : Int) < (a.length : Int)) (by kernel_rfl) (fun c2 => ?_) (fun c2 => ?_)
    · skip
      refine SW_skip ?_
      refine SW_seq ?_
      refine SW_block ?_
      refine SW_D (CS := [(2, (0 ≤ (i : Int) ∧ i < a.length)), (6, (0 ≤ (i : Int) ∧ i < b.length))]) [] [0, 1, 5, 25] [] hk0 v0 (by refine cc _ ?_ <| cc _ ?_ c0 <;> first | omega | (simp; omega) | (simp; done) | (intros; simp_all; omega) | (intros; simp_all; done)) ?_
      refine SW_ifn (p := (nth a i) = (nth b i)) (by kernel_rfl) (fun c3 => ?_) (fun c3 => ?_)
      · skip
        refine SW_P [] [4] ?_
        refine SW_ret ?_
        refine RK wR [(.bool (false))] ?_
        exact Same.of_eq (by rw [sameI_no (i := i) (by simp_all)]; rfl)
      · skip
        refine SW_skip ?_
        refine SW_reg ?_
        refine SO_HA 0 [] [0, 1, 5] [] hk0 v0 (cc 1 (p := (-9223372036854775808 ≤ (i : Int) + 1 ∧ (i : Int) + 1 ≤ 9223372036854775807)) (by first | omega | (simp; omega) | (simp; done) | (intros; simp_all; omega) | (intros; simp_all; done)) <| c0) ?_
        refine ⟨by kernel_rfl, _, ?_, i + 1, ?_, ?_, (by kernel_rfl), rfl⟩
        · omega
        · omega
        · intro j hj
          by_cases h : j = i
          · subst h; simp_all
          · exact f1_2 j (by omega)
    · skip
      refine SW_exit ?_
      refine SW_P [] [4] ?_
      refine SW_ret ?_
      refine RK wR [(.bool (true))] ?_
      exact Same.of_eq (by rw [sameI_yes (by omega) (fun j hj => f1_2 j (by omega))]; rfl)
end Sv
end Go.Proofs.YtlfjokcbkopfeaaGreatDoor
end
section
namespace Go.Proofs.YtlfjokcbkopfeaaGreatDoor
open Go Go.RowKit
namespace Sv
section
variable {m : MeetF} {st : PoolT} {s : List Int}
theorem who_zero {d : DepT} (h : (whoR m st d).2 = 0) : checkE d = 0 ∧ singleB d.kind = true ∧ whoR m st d = (whoTo m st d st.all.length, 0) := by
  unfold whoR at h ⊢
  by_cases q : readyE d (singleB d.kind) = 0
  · rw [if_pos q]
    unfold readyE at q
    by_cases hc : checkE d = 0
    · rw [if_pos hc] at q
      cases hs : singleB d.kind with
      | true => exact ⟨hc, rfl, rfl⟩
      | false => rw [hs] at q; simp at q
    · rw [if_neg hc] at q; exact absurd q hc
  · rw [if_neg q] at h; exact absurd h q
theorem who_yes0 {d : DepT} (h : checkE d = 0) (hs : singleB d.kind = true) : whoR m st d = (whoTo m st d st.all.length, 0) := by
  unfold whoR readyE; rw [if_pos h, hs, if_pos rfl, if_pos rfl]
theorem whoTo_mem {d : DepT} {n : Nat} {x : Int} : x ∈ whoTo m st d n ↔ (0 ≤ x ∧ x < n) ∧ aloneB m st d.size d x = true := by
  unfold whoTo
  rw [List.mem_map]
  constructor
  · rintro ⟨k, hk, rfl⟩
    obtain ⟨h1, h2⟩ := List.mem_filter.1 hk
    rw [List.mem_range] at h1
    exact ⟨⟨by omega, by omega⟩, h2⟩
  · rintro ⟨⟨h1, h2⟩, h3⟩
    refine ⟨x.toNat, List.mem_filter.2 ⟨List.mem_range.2 (by omega), ?_⟩, by omega⟩
    rw [show ((x.toNat : Nat) : Int) = x by omega]; exact h3
theorem rise_map {l : List Nat} (h : l.Pairwise (· < ·)) : RiseI (l.map fun (k : Nat) => (k : Int)) := by
  induction l with
  | nil => trivial
  | cons a l ih =>
    rw [List.pairwise_cons] at h
    refine ⟨fun y hy => ?_, ih h.2⟩
    obtain ⟨z, hz, rfl⟩ := List.mem_map.1 hy
    have := h.1 z hz
    show (a : Int) < (z : Int)
    omega
theorem whoTo_rise {d : DepT} {n : Nat} : RiseI (whoTo m st d n) := by
  unfold whoTo
  exact rise_map (List.Pairwise.filter _ List.pairwise_lt_range)
theorem whoR_len {d : DepT} : (whoR m st d).1.length ≤ st.all.length := by
  unfold whoR
  split
  · exact whoTo_len
  · simp
theorem pair_of {a b : DepT} (h : checkE (.mk 5 [] 0 [] [a, b]) = 0) : formB a = true ∧ formB b = true ∧ checkE (.mk 6 [] 0 [] [a, b]) = 0 := by
  have h1 := check_form h
  have h2 := check_parts h
  have fa := form_nth h1 (i := 0) (by simp [DepT.args])
  have fb := form_nth h1 (i := 1) (by simp [DepT.args])
  refine ⟨fa, fb, check_of ?_ ?_⟩
  · rw [formB_not (d := .mk 5 [] 0 [] [a, b]) (by simp [DepT.kind])] at h1
    rw [formB_not (d := .mk 6 [] 0 [] [a, b]) (by simp [DepT.kind])]
    simp only [Bool.and_eq_true] at h1 ⊢
    refine ⟨rfl, ?_⟩
    have h3 := h1.2
    simp only [DepT.args, DepT.kind, argsForm, Bool.and_eq_true] at h3 ⊢
    have k : ∀ {x : Int}, kindOK 5 x = true → kindOK 6 x = true := fun {x} h => by unfold kindOK at h ⊢; simpa using h
    exact ⟨k h3.1, h3.2.1, k h3.2.2.1, h3.2.2.2⟩
  · rw [partsN_not (d := .mk 5 [] 0 [] [a, b]) (by simp [DepT.kind])] at h2
    rw [partsN_not (d := .mk 6 [] 0 [] [a, b]) (by simp [DepT.kind])]
    exact h2
theorem alone_with {a b : DepT} (ha : formB a = true) (hb : formB b = true) (x : Int) : aloneB m st (DepT.mk 5 [] 0 [] [a, b]).size (.mk 5 [] 0 [] [a, b]) x = (aloneB m st a.size a x && aloneB m st b.size b x) := by
  rw [size2, ← aloneB_fuel (a.size + b.size) a ha (by omega), ← aloneB_fuel (a.size + b.size) b hb (by omega)]
  show (if (5 : Int) = 1 then _ else if (5 : Int) = 6 then _ else !([a, b].any fun c => !aloneB m st (a.size + b.size) c x)) = _
  rw [if_neg (by decide), if_neg (by decide)]
  simp
theorem alone_without {a b : DepT} (ha : formB a = true) (hb : formB b = true) (x : Int) : aloneB m st (DepT.mk 6 [] 0 [] [a, b]).size (.mk 6 [] 0 [] [a, b]) x = (aloneB m st a.size a x && !aloneB m st b.size b x) := by
  rw [size2, ← aloneB_fuel (a.size + b.size) a ha (by omega), ← aloneB_fuel (a.size + b.size) b hb (by omega)]
  show (if (6 : Int) = 1 then _ else if (6 : Int) = 6 then _ else _) = _
  rw [if_neg (by decide), if_pos rfl]
  rfl
theorem parts_law {a b : DepT} (ha : (whoR m st a).2 = 0) (hb : (whoR m st b).2 = 0) (hc : checkE (.mk 5 [] 0 [] [a, b]) = 0) (hs : ∀ x ∈ s, 0 ≤ x ∧ x < st.all.length) :
    whoR m st (.mk 5 [] 0 [] [a, b]) = (meetZ (whoR m st a).1 (whoR m st b).1, 0) ∧ whoR m st (.mk 6 [] 0 [] [a, b]) = (minusZ (whoR m st a).1 (whoR m st b).1, 0) ∧ metR m st a s = (decide (0 < (meetZ (whoR m st a).1 s).length), 0) := by
  obtain ⟨a1, a2, a3⟩ := who_zero ha
  obtain ⟨b1, b2, b3⟩ := who_zero hb
  obtain ⟨fa, fb, hd⟩ := pair_of hc
  rw [a3, b3, who_yes0 hc rfl, who_yes0 hd rfl]
  refine ⟨?_, ?_, ?_⟩
  · rw [rise_ext whoTo_rise (meetZ_rise _ _) fun x => ?_]
    rw [meetZ_mem, whoTo_mem, whoTo_mem, whoTo_mem, alone_with fa fb]
    simp only [Bool.and_eq_true]
    exact ⟨fun h => ⟨⟨h.1, h.2.1⟩, h.1, h.2.2⟩, fun h => ⟨h.1.1, h.1.2, h.2.2⟩⟩
  · rw [rise_ext whoTo_rise (minusZ_rise _ _) fun x => ?_]
    rw [minusZ_mem, whoTo_mem, whoTo_mem, whoTo_mem, alone_without fa fb]
    simp only [Bool.and_eq_true, Bool.not_eq_true']
    exact ⟨fun h => ⟨⟨h.1, h.2.1⟩, fun k => by rw [k.2] at h; exact absurd h.2.2 (by simp)⟩, fun h => ⟨h.1.1, h.1.2, by cases q : aloneB m st b.size b x with | false => rfl | true => exact absurd ⟨h.1.1, q⟩ h.2⟩⟩
  · rw [metR_ok a1 hs]
    have e : metB m st s a.size a = s.any fun id => aloneB m st a.size a id := by
      have hz : ∃ n, a.size = n + 1 := ⟨a.size - 1, by have := size_args a; omega⟩
      obtain ⟨n, hn⟩ := hz
      have ne : ¬ a.kind = 2 ∧ ¬ a.kind = 3 ∧ ¬ a.kind = 4 := by
        unfold singleB at a2
        simp only [Bool.or_eq_true, decide_eq_true_eq] at a2
        omega
      rw [hn, metB_else ne.1 ne.2.1 ne.2.2, ← hn]
    have k : (s.any fun id => aloneB m st a.size a id) = decide (0 < (meetZ (whoTo m st a st.all.length) s).length) := by
      rw [Bool.eq_iff_iff, List.any_eq_true, decide_eq_true_eq, List.length_pos_iff_exists_mem]
      constructor
      · rintro ⟨x, hx, h⟩
        exact ⟨x, meetZ_mem.2 ⟨whoTo_mem.2 ⟨hs x hx, h⟩, hx⟩⟩
      · rintro ⟨x, hx⟩
        obtain ⟨h1, h2⟩ := meetZ_mem.1 hx
        exact ⟨x, h2, (whoTo_mem.1 h1).2⟩
    rw [e, k]
end
end Sv
end Go.Proofs.YtlfjokcbkopfeaaGreatDoor
end
section
namespace Go.Proofs.YtlfjokcbkopfeaaGreatDoor
open Go Go.RowKit
namespace Sv
attribute [local irreducible] SW SO holds
set_option maxHeartbeats 1000000 in
set_option maxRecDepth 100000 in
theorem provParts_ok (l : List RepoT) (hll : l.length ≤ 1048576) (hl : ∀ i, i < l.length → (nth l i).size ≤ 1048576) (a : DepT) (ha : a.size ≤ 1048576) (b : DepT) (hb : b.size ≤ 1048576) (rs : List Int) (hrs : rs.length ≤ 1048576) (hbr : ∀ i, i < rs.length → -9223372036854775808 ≤ nth rs i ∧ nth rs i ≤ 9223372036854775807) :
  FnV Tryz.prog 4 [(rowOf 4 repoX l), (.agg [(.int .i64 a.kind), (.str a.name), (.int .i64 a.op), (.str a.evr), (.row 5 a.args.length (depAt a.args))]), (.agg [(.int .i64 b.kind), (.str b.name), (.int .i64 b.op), (.str b.evr), (.row 5 b.args.length (depAt b.args))]), (nums rs)] (.bool true) := by
 have hl4 : ∀ i, i < l.length → (nth l i).size ≤ 4194304 := fun i hi => Nat.le_trans (hl i hi) (by decide)
 have hi := bothTo_idx (k := kindN 2) hl4
 have hpl : (bothTo (kindN 2) l).2.length = (bothTo (kindN 2) l).1.all.length := (bothTo_at (kindN 2) l).1
 have h200 := hi.1
 have hua := whoR_len (m := meetsN) (st := (bothTo (kindN 2) l).1) (d := a)
 have hub := whoR_len (m := meetsN) (st := (bothTo (kindN 2) l).1) (d := b)
 have hsl := allP_len (bothTo (kindN 2) l).2.length rs
 refine FnV_intro [.tmp 8] Tryz.func4 rfl Tryz.ntmps4 rfl rfl (fun B F hF => ?_)
 refine SW_H [] [0, 3, 5, 6] [(1, 5), (2, 6)] hk0 v0 c0 ?_
 refine SW_H [] [0, 3, 5, 6, 9] [] (hk 0 en_8 awake7_ok <| hk0) v0 c0 ?_
 refine SW_H [] [3, 5, 6, 9, 10, 11] [] (hk 1 en_9 (Pools_ok 2 l (by omega) hl4) <| hk0) v0 c0 ?_
 refine SW_H [] [3, 5, 6, 9, 10, 11, 12] [] (hk 1 en_10 (provNew_ok (bothTo (kindN 2) l).1 hi.1 hi.2) <| hk0) v0 c0 ?_
 refine SW_seq ?_
 refine SW_P [] [3, 5, 6, 11, 12, 45] ?_
 refine SW_false (by kernel_rfl) ?_
 refine SW_skip ?_
 refine SW_H [] [3, 5, 6, 11, 12, 13, 14] [] (hk 2 en_13 (Who_ok meetsN meets_all (bothTo (kindN 2) l).1 hi a (by first | omega | (rw [size2]; omega))) <| hk0) v0 c0 ?_
 refine SW_H [] [3, 5, 6, 11, 12, 13, 14, 15, 16] [] (hk 2 en_13 (Who_ok meetsN meets_all (bothTo (kindN 2) l).1 hi b (by first | omega | (rw [size2]; omega))) <| hk0) v0 c0 ?_
 refine SW_seq ?_
 obtain ⟨b1, hb1⟩ : ∃ b, b = (!decide (((whoR meetsN (bothTo (kindN 2) l).1 a).2) = 0)) := ⟨_, rfl⟩
 refine SW_H (CS := [(4, ((!b1) = true → (!b1) = true)), (5, (b1 = false → (!b1) = true))]) [61, 62] [3, 5, 6, 11, 12, 13, 15, 63] [] hk0 (vk 3 60 (a := .bool (!decide (((whoR meetsN (bothTo (kindN 2) l).1 a).2) = 0))) (b := .bool b1) (Imp.of_eq (by rw [hb1])) <| v0) (by refine cc _ ?_ <| cc _ ?_ c0 <;> first | omega | (simp; omega) | (simp; done) | (intros; simp_all; omega) | (intros; simp_all; done)) ?_
 refine SW_cond (q := b1 || (!decide (((whoR meetsN (bothTo (kindN 2) l).1 b).2) = 0))) (by kernel_rfl) (fun c1 => ?_) (fun c1 => ?_)
 ·subst hb1
  try simp only [Bool.and_eq_true, Bool.or_eq_true, Bool.and_eq_false_iff, Bool.or_eq_false_iff, Bool.not_eq_true', Bool.not_eq_false', decide_eq_true_eq, decide_eq_false_iff_not] at c1
  refine SW_P [] [8] ?_
  refine SW_ret ?_
  refine RK wR [(.bool true)] ?_
  exact Same.of_eq (by first | rfl | (simp only [pack]; simp_all))
 ·subst hb1
  try simp only [Bool.and_eq_true, Bool.or_eq_true, Bool.and_eq_false_iff, Bool.or_eq_false_iff, Bool.not_eq_true', Bool.not_eq_false', decide_eq_true_eq, decide_eq_false_iff_not] at c1
  refine SW_skip ?_
  refine SW_H [] [3, 5, 6, 11, 12, 13, 15, 17] [(3, 66)] hk0 (vk 3 66 (b := (rowOf 5 depX [a, b])) (Imp.list (f := depX) rfl) <| vk 5 67 (a := (.agg [(.int .i64 5), (.str []), (.int .i64 0), (.str []), (rowOf 5 depX [a, b])])) (b := (.agg [(.int .i64 ((DepT.mk 5 [] 0 [] [a, b]).kind)), (.str ((DepT.mk 5 [] 0 [] [a, b]).name)), (.int .i64 ((DepT.mk 5 [] 0 [] [a, b]).op)), (.str ((DepT.mk 5 [] 0 [] [a, b]).evr)), (.row 5 (DepT.mk 5 [] 0 [] [a, b]).args.length (depAt (DepT.mk 5 [] 0 [] [a, b]).args))])) ((Imp.aggs (ImpL.cons Imp.refl (ImpL.cons Imp.refl (ImpL.cons Imp.refl (ImpL.cons Imp.refl (ImpL.cons (deps_to _) ImpL.nil))))))) <| v0) c0 ?_
  refine SW_H [] [3, 5, 11, 12, 13, 15, 17, 18] [(0, 17), (3, 70)] hk0 (vk 3 70 (b := (rowOf 5 depX [a, b])) (Imp.list (f := depX) rfl) <| vk 5 71 (a := (.agg [(.int .i64 6), (.str []), (.int .i64 0), (.str []), (rowOf 5 depX [a, b])])) (b := (.agg [(.int .i64 ((DepT.mk 6 [] 0 [] [a, b]).kind)), (.str ((DepT.mk 6 [] 0 [] [a, b]).name)), (.int .i64 ((DepT.mk 6 [] 0 [] [a, b]).op)), (.str ((DepT.mk 6 [] 0 [] [a, b]).evr)), (.row 5 (DepT.mk 6 [] 0 [] [a, b]).args.length (depAt (DepT.mk 6 [] 0 [] [a, b]).args))])) ((Imp.aggs (ImpL.cons Imp.refl (ImpL.cons Imp.refl (ImpL.cons Imp.refl (ImpL.cons Imp.refl (ImpL.cons (deps_to _) ImpL.nil))))))) <| v0) c0 ?_
  refine SW_seq ?_
  refine SW_H [] [3, 5, 11, 12, 13, 15, 17, 18, 74] [(0, 18)] (hk 1 en_22 (CheckV (DepT.mk 5 [] 0 [] [a, b]) (by first | omega | (rw [size3]; omega) | (rw [size2]; omega))) <| hk0) v0 c0 ?_
  refine SW_ifn (p := (checkE (DepT.mk 5 [] 0 [] [a, b])) = 0) (by kernel_rfl) (fun c2 => ?_) (fun c2 => ?_)
  ·refine SW_P [] [8] ?_
   refine SW_ret ?_
   refine RK wR [(.bool true)] ?_
   exact Same.of_eq (by first | rfl | (simp only [pack]; simp_all))
  ·obtain ⟨m1, m2, m3⟩ := parts_law (m := meetsN) (st := (bothTo (kindN 2) l).1) (s := (allP (bothTo (kindN 2) l).2.length rs)) c1.1 c1.2 c2 (fun q hq => by have h := allP_in hq; rw [hpl] at h; exact h)
   refine SW_skip ?_
   refine SW_H [] [3, 5, 11, 12, 13, 15, 18, 19, 20] [] (hk 2 en_13 ((Who_ok meetsN meets_all (bothTo (kindN 2) l).1 hi (DepT.mk 5 [] 0 [] [a, b]) (by first | omega | (rw [size2]; omega))).to (Same.of_eq (by rw [m1]))) <| hk0) v0 c0 ?_
   refine SW_H [] [3, 5, 11, 12, 13, 15, 19, 20, 21, 22] [] (hk 2 en_13 ((Who_ok meetsN meets_all (bothTo (kindN 2) l).1 hi (DepT.mk 6 [] 0 [] [a, b]) (by first | omega | (rw [size2]; omega))).to (Same.of_eq (by rw [m2]))) <| hk0) v0 c0 ?_
   refine SW_H [] [3, 5, 11, 12, 13, 15, 20, 21, 22, 23] [] (hk 3 en_23 (idsMeet_ok ((whoR meetsN (bothTo (kindN 2) l).1 a).1) ((whoR meetsN (bothTo (kindN 2) l).1 b).1) (by omega) (by omega)) <| hk 4 en_17 ((rSame_ok (meetZ ((whoR meetsN (bothTo (kindN 2) l).1 a).1) ((whoR meetsN (bothTo (kindN 2) l).1 b).1)) (meetZ ((whoR meetsN (bothTo (kindN 2) l).1 a).1) ((whoR meetsN (bothTo (kindN 2) l).1 b).1)) (by have := setZ_len; first | exact Nat.le_trans (setZ_len _) (Nat.le_trans (List.length_filter_le _ _) (by omega)))).to (Same.of_eq (congrArg AV.bool (decide_eq_true rfl)))) <| hk0) v0 c0 ?_
   refine SW_H [] [3, 5, 11, 12, 13, 20, 22, 23, 24] [] (hk 3 en_24 (idsMinus_ok ((whoR meetsN (bothTo (kindN 2) l).1 a).1) ((whoR meetsN (bothTo (kindN 2) l).1 b).1) (by omega) (by omega)) <| hk 4 en_17 ((rSame_ok (minusZ ((whoR meetsN (bothTo (kindN 2) l).1 a).1) ((whoR meetsN (bothTo (kindN 2) l).1 b).1)) (minusZ ((whoR meetsN (bothTo (kindN 2) l).1 a).1) ((whoR meetsN (bothTo (kindN 2) l).1 b).1)) (by have := setZ_len; first | exact Nat.le_trans (setZ_len _) (Nat.le_trans (List.length_filter_le _ _) (by omega)))).to (Same.of_eq (congrArg AV.bool (decide_eq_true rfl)))) <| hk0) v0 c0 ?_
   refine SW_H [] [5, 12, 13, 20, 22, 23, 24, 25] [] (hk 2 en_25 (rAll_ok (bothTo (kindN 2) l).1 (bothTo (kindN 2) l).2 rs (by omega) (by first | omega | (rw [List.length_append]; omega)) (by first | assumption | (intro i hi; exact nth_app_b hb hc hi))) <| hk0) v0 c0 ?_
   refine SW_H [] [13, 20, 22, 23, 24, 25, 26, 27] [] (hk 3 en_15 ((Met_ok meetsN meets_all (bothTo (kindN 2) l).1 hi a (allP (bothTo (kindN 2) l).2.length rs) (by first | omega | (rw [size3]; omega) | (rw [size2]; omega)) (by have h1 := allP_len (bothTo (kindN 2) l).2.length rs; first | omega | (have h2 := allP_len (bothTo (kindN 2) l).2.length (rs ++ ks); rw [List.length_append] at h2; omega))).to (Same.of_eq (by rw [m3]))) <| hk0) v0 c0 ?_
   obtain ⟨b2, hb2⟩ : ∃ b, b = ((decide (0 < (meetZ ((whoR meetsN (bothTo (kindN 2) l).1 a).1) (allP (bothTo (kindN 2) l).2.length rs)).length)) == (decide (0 < ((meetZ ((whoR meetsN (bothTo (kindN 2) l).1 a).1) (allP (bothTo (kindN 2) l).2.length rs)).length : Int)))) := ⟨_, rfl⟩
   refine SW_H [] [8] [] (hk 20 en_23 (idsMeet_ok ((whoR meetsN (bothTo (kindN 2) l).1 a).1) (allP (bothTo (kindN 2) l).2.length rs) (by omega) (by omega)) <| hk0) (vk 25 131 (a := .bool ((decide (0 < (meetZ ((whoR meetsN (bothTo (kindN 2) l).1 a).1) (allP (bothTo (kindN 2) l).2.length rs)).length)) == (decide (0 < ((meetZ ((whoR meetsN (bothTo (kindN 2) l).1 a).1) (allP (bothTo (kindN 2) l).2.length rs)).length : Int))))) (b := .bool b2) (Imp.of_eq (by rw [hb2])) <| v0) c0 ?_
   refine SW_ret ?_
   refine RK wR [(.bool b2)] ?_
   subst hb2
   refine Same.of_eq ?_
   simp only [pack]
   simp
end Sv
end Go.Proofs.YtlfjokcbkopfeaaGreatDoor
end
section
namespace Go.Proofs.YtlfjokcbkopfeaaGreatDoor
open Go Go.RowKit
section
variable {H : Type} {enc : TypeId × Value → H} {P : Program} {W : World}
def Two {α β : Type} (R : α → β → Prop) : List α → List β → Prop
  | [], [] => True
  | a :: l, b :: m => R a b ∧ Two R l m
  | _, _ => False
theorem Two.len {α β : Type} {R : α → β → Prop} : ∀ {l : List α} {m : List β}, Two R l m → m.length = l.length
  | [], [], _ => rfl
  | _ :: _, _ :: _, h => by simp only [List.length_cons, Two.len h.2]
theorem addr_spot {w : World} {a : Addr} {v : Value} (h : w.cell? a = some v) : a.spot = none := by
  unfold World.cell? at h
  cases hs : a.spot with
  | none => rfl
  | some k => rw [hs] at h; split at h <;> simp at h
theorem open_elems {α : Type} {e : TypeId} {sz n : Nat} {a : Addr} (hc : P.cellsOf e = sz) {Q : α → List Value → Prop} {size : α → Nat}
    (each : ∀ cs' y, cs'.length = sz → DataW.trod enc P W 0 (fun _ => true) true n e cs' = some y → ∃ x, Q x cs' ∧ size x ≤ Rows.uptoBulk y.1) :
    ∀ (elems : List (DataW H × List MemPlace)) (i : Nat), (∀ j, j < elems.length → (W.cells? 0 (a.add ((i + j) * sz)) sz).bind (DataW.trod enc P W 0 (fun _ => true) true n e) = elems[j]?) →
      ∃ (l : List α) (css : List (List Value)), l.length = elems.length ∧ Two Q l css ∧ (l.map size).sum ≤ Rows.uptoBulkAll (elems.map (·.1)) ∧ (∀ c ∈ css, c.length = sz) ∧
        ∀ j u, css.flatten[j]? = some u → W.cell? (a.add (i * sz + j)) = some u
  | [], i, _ => ⟨[], [], rfl, trivial, by simp, by simp, by simp⟩
  | y :: r, i, h => by
    have h0 := h 0 (by simp)
    simp only [Nat.add_zero, List.getElem?_cons_zero] at h0
    obtain ⟨cs', h1, h2⟩ := Option.bind_eq_some_iff.1 h0
    obtain ⟨_, hl, hcs⟩ := World.cells?_some h1
    obtain ⟨x, hx, hs⟩ := each cs' y hl h2
    obtain ⟨l, css, e1, e2, e3, e4, e5⟩ := open_elems hc each r (i + 1) (fun j hj => by
      have := h (j + 1) (by simpa using hj)
      rw [show i + (j + 1) = i + 1 + j by omega] at this
      simpa using this)
    refine ⟨x :: l, cs' :: css, by simp [e1], ⟨hx, e2⟩, ?_, ?_, ?_⟩
    · simp only [List.map_cons, List.sum_cons, Rows.uptoBulkAll]; omega
    · intro c hc'; rcases List.mem_cons.1 hc' with rfl | hc'
      · exact hl
      · exact e4 c hc'
    · intro j u hu
      rw [List.flatten_cons] at hu
      by_cases hj : j < sz
      · rw [List.getElem?_append_left (by omega)] at hu
        have := hcs j hj
        rw [hu] at this
        rw [← this]
        congr 1
        show a.add (i * sz + j) = (a.add (i * sz)).add j
        unfold Addr.add
        by_cases h1 : i * sz = 0 <;> by_cases h2 : j = 0 <;> simp [h1, h2, Nat.add_assoc]
      · rw [List.getElem?_append_right (by omega), hl] at hu
        have := e5 (j - sz) u hu
        rw [← this]; congr 2
        have : (i + 1) * sz = i * sz + sz := by rw [Nat.add_mul, Nat.one_mul]
        omega
theorem open_list {α : Type} {t e : TypeId} {sz fuel : Nat} {cs : List Value} {y : DataW H × List MemPlace} (ht : P.underlying t = some (.slice e)) (hc : P.cellsOf e = sz) (hsz : 0 < sz) {Q : α → List Value → Prop} {size : α → Nat}
    (each : ∀ n cs' y, n < fuel → cs'.length = sz → DataW.trod enc P W 0 (fun _ => true) true n e cs' = some y → ∃ x, Q x cs' ∧ size x ≤ Rows.uptoBulk y.1) (h : DataW.trod enc P W 0 (fun _ => true) true fuel t cs = some y) :
    ∃ (v : Value) (l : List α) (css : List (List Value)), cs = [v] ∧ RowIs W v l.length sz css.flatten ∧ Two Q l css ∧ (∀ c ∈ css, c.length = sz) ∧ (l.map size).sum + 1 ≤ Rows.uptoBulk y.1 := by
  rcases DataW.trod_slice ht h with ⟨rfl, rfl⟩ | ⟨a, len, cap, elems, rest, n, hf, rfl, rfl, _, _, _, hlen, hel, _, _⟩
  · exact ⟨_, [], [], rfl, ⟨by simp, .inl ⟨rfl, _, _, rfl⟩⟩, trivial, by simp, by simp [Rows.uptoBulk]⟩
  · subst hc
    obtain ⟨l, css, e1, e2, e3, e4, e5⟩ := open_elems (a := a) rfl (each n · · (by omega)) elems 0 (fun j hj => by rw [Nat.zero_add]; exact hel j (by omega))
    have hfl : css.flatten.length = l.length * P.cellsOf e := by
      rw [← e2.len, List.length_flatten]
      clear e5 e2 e1
      induction css with
      | nil => simp
      | cons c r ih => simp only [List.map_cons, List.sum_cons, List.length_cons]; rw [ih (fun c hc => e4 c (by simp [hc])), e4 c (by simp), Nat.add_mul]; omega
    refine ⟨_, l, css, rfl, ⟨hfl, ?_⟩, e2, e4, by simp only [Rows.uptoBulk]; omega⟩
    by_cases hn : l.length = 0
    · exact .inl ⟨hn, some a, cap, by rw [← hlen, ← e1, hn]⟩
    · right
      have hp : 0 < css.flatten.length := by rw [hfl]; exact Nat.mul_pos (by omega) hsz
      have hsp := addr_spot (a := a) (by have := e5 0 _ (List.getElem?_eq_getElem hp); rw [Nat.zero_mul] at this; exact this)
      obtain ⟨b, o, sp⟩ := a
      simp only at hsp; subst hsp
      refine ⟨b, o, cap, by rw [← hlen, ← e1], fun j u hu => ?_⟩
      have := e5 j u hu
      rw [Nat.zero_mul, Nat.zero_add] at this
      rw [← this]; congr 1
      unfold Addr.add; split <;> simp_all
end
section
variable {H : Type} {enc : TypeId × Value → H} {W : World}
theorem S_of (s : ByteArray) : Value.string s = S s.data.toList := by simp [S]
theorem argsSize_sum (l : List DepT) : (l.map DepT.size).sum = argsSize l := by
  induction l with
  | nil => rfl
  | cons d r ih => simp only [List.map_cons, List.sum_cons, argsSize, ih]
end
end Go.Proofs.YtlfjokcbkopfeaaGreatDoor
end
section
namespace Go.Proofs.YtlfjokcbkopfeaaGreatDoor
open Go Go.RowKit
set_option linter.unusedSimpArgs false
set_option linter.unusedVariables false
namespace Sv
def allF (W : World) : Nat → Option Obj := fun b => W.heap[b]?
theorem fro_all (W : World) : Fro (allF W) W := fun _ _ e => e
theorem cell_block {w : World} {b k : Nat} {v : Value} (h : w.cell? ⟨b, k, none⟩ = some v) : ∃ cs e fr, w.heap[b]? = some (.cells cs e fr) ∧ cs[k]? = some v := by
  unfold World.cell? at h
  split at h
  · rename_i c e fr hb
    exact ⟨c, e, fr, hb, by simpa using h⟩
  · cases h
theorem two_nth {α : Type} [Inhabited α] {R : α → List Value → Prop} : ∀ {l : List α} {m : List (List Value)}, Two R l m → ∀ {i}, i < l.length → R (Go.Proofs.YtlfjokcbkopfeaaGreatDoor.nth l i) (Go.Proofs.YtlfjokcbkopfeaaGreatDoor.nth m i)
  | [], [], _, i, h => by simp at h
  | _ :: _, [], h, _, _ => h.elim
  | a :: l, b :: m, h, 0, _ => h.1
  | a :: l, b :: m, h, i + 1, hi => two_nth (l := l) (m := m) h.2 (by simpa using hi)
section
variable {H : Type} {enc : TypeId × Value → H} {P : Program} {W : World}
theorem open_listV {α : Type} [Inhabited α] {t e : TypeId} {sz fuel : Nat} {cs : List Value} {y : DataW H × List MemPlace} (ht : P.underlying t = some (.slice e)) (hc : P.cellsOf e = sz) (hsz : 0 < sz) {f : α → AV} {size : α → Nat} (wrap : List Value → Value)
    (hw : ∀ cs', cs'.length = sz → (∀ c ∈ cs', c.oneCell' = true) → (wrap cs').cells.toList = cs')
    (each : ∀ n cs' y, n < fuel → cs'.length = sz → DataW.trod enc P W 0 (fun _ => true) true n e cs' = some y → ∃ x, (VR (ofF (allF W)) (f x) (wrap cs') ∧ ∀ c ∈ cs', c.oneCell' = true) ∧ size x ≤ Rows.uptoBulk y.1) (h : DataW.trod enc P W 0 (fun _ => true) true fuel t cs = some y) :
    ∃ (v : Value) (l : List α), cs = [v] ∧ VR (ofF (allF W)) (rowOf sz f l) v ∧ (l.map size).sum + 1 ≤ Rows.uptoBulk y.1 := by
  obtain ⟨v, l, css, rfl, hr, h2, h4, h5⟩ := open_list (Q := fun x cs' => VR (ofF (allF W)) (f x) (wrap cs') ∧ ∀ c ∈ cs', c.oneCell' = true) ht hc hsz each h
  refine ⟨v, l, rfl, ?_, h5⟩
  have hshape : v = .slice none 0 0 ∨ ∃ a n c, v = .slice (some a) n c ∧ n ≤ c := by
    rcases DataW.trod_slice ht h with ⟨e, _⟩ | ⟨a, len, cap, _, _, _, _, e, _, _, hle, _⟩
    · left; simpa using e
    · right; exact ⟨a, len, cap, by simpa using e, hle⟩
  unfold rowOf
  simp only [VR]
  have hlen := h2.len
  refine ⟨fun i => wrap (nth css i), fun i hi => (two_nth h2 hi).1, ?_⟩
  rcases hr.2 with ⟨h0, a, c, rfl⟩ | ⟨b, o, c, rfl, hcell⟩
  · refine .inl ⟨h0, ?_⟩
    rcases hshape with e | ⟨a', n, c', e, _⟩
    · exact .inl e
    · cases e; exact .inr ⟨a', c, rfl⟩
  · have hnc : l.length ≤ c := by
      rcases hshape with e | ⟨a', n, c', e, hle⟩
      · cases e
      · cases e; exact hle
    refine .inr ⟨b, o, c, rfl, hnc, fun i hi => ?_⟩
    have hmem : nth css i ∈ css := nth_mem (by omega)
    have hwr := hw _ (h4 _ hmem) (two_nth h2 hi).2
    have hat : ∀ j, j < sz → css.flatten[i * sz + j]? = (nth css i)[j]? := fun j hj => flat_at (sz := sz) css i j h4 (by omega) hj
    refine ⟨by rw [← Array.length_toList, hwr]; exact h4 _ hmem, ?_⟩
    rw [hwr]
    have hl := h4 _ hmem
    obtain ⟨cs0, e0, fr0, k1, _⟩ := cell_block (hcell (i * sz + 0) _ ((hat 0 hsz).trans (List.getElem?_eq_getElem (show 0 < (nth css i).length by omega))))
    refine ⟨cs0, e0, fr0, k1, fun j u hu => ?_⟩
    have hj : j < sz := by have := (List.getElem?_eq_some_iff.1 hu).1; omega
    obtain ⟨cs1, e1, fr1, k2, k3⟩ := cell_block (hcell (i * sz + j) u ((hat j hj).trans hu))
    rw [k1] at k2; cases k2
    exact ⟨by rw [Nat.add_assoc]; exact k3, (two_nth h2 hi).2 u (List.mem_of_getElem? hu)⟩
set_option maxRecDepth 100000 in
theorem open_depVF : ∀ (fuel : Nat) (cs : List Value) (x : DataW H × List MemPlace), DataW.trod enc Tryz.prog W 0 (fun _ => true) true fuel 25 cs = some x → ∃ d : DepT, (VR (ofF (allF W)) (depX d) (.agg cs.toArray) ∧ ∀ c ∈ cs, c.oneCell' = true) ∧ d.size ≤ Rows.uptoBulk x.1 := by
  intro fuel
  induction fuel using Nat.strongRecOn with
  | ind fuel ih =>
  intro cs x h
  obtain ⟨xs, n, hf, rfl, hl, hxs, hfs⟩ := DataW.trod_struct Tryz.underlying25 h
  have hl' : cs.length = 5 := hl.trans (by kernel_rfl)
  match cs, hl' with
  | [c0, c1, c2, c3, c4], _ =>
  match xs, hxs with
  | [y0, y1, y2, y3, y4], _ =>
  have g0 : DataW.trod enc Tryz.prog W 0 (fun _ => true) true n 3 (([c0, c1, c2, c3, c4].drop 0).take (Tryz.prog.cellsOf 3)) = some y0 := hfs 0 _ rfl
  have g1 : DataW.trod enc Tryz.prog W 0 (fun _ => true) true n 9 (([c0, c1, c2, c3, c4].drop 1).take (Tryz.prog.cellsOf 9)) = some y1 := hfs 1 _ rfl
  have g2 : DataW.trod enc Tryz.prog W 0 (fun _ => true) true n 3 (([c0, c1, c2, c3, c4].drop 2).take (Tryz.prog.cellsOf 3)) = some y2 := hfs 2 _ rfl
  have g3 : DataW.trod enc Tryz.prog W 0 (fun _ => true) true n 9 (([c0, c1, c2, c3, c4].drop 3).take (Tryz.prog.cellsOf 9)) = some y3 := hfs 3 _ rfl
  have g4 : DataW.trod enc Tryz.prog W 0 (fun _ => true) true n 23 (([c0, c1, c2, c3, c4].drop 4).take (Tryz.prog.cellsOf 23)) = some y4 := hfs 4 _ rfl
  have k1 : Tryz.prog.cellsOf 3 = 1 := by kernel_rfl
  have k2 : Tryz.prog.cellsOf 9 = 1 := by kernel_rfl
  have k3 : Tryz.prog.cellsOf 23 = 1 := by kernel_rfl
  have k4 : Tryz.prog.cellsOf 25 = 5 := by kernel_rfl
  rw [k1] at g0 g2; rw [k2] at g1 g3; rw [k3] at g4
  simp only [List.drop_zero, List.drop_succ_cons, List.take_succ_cons, List.take_zero] at g0 g1 g2 g3 g4
  obtain ⟨k, e0, rfl, _⟩ := DataW.trod_int Tryz.underlying3 g0
  obtain ⟨nm, e1, rfl, _⟩ := DataW.trod_string Tryz.underlying9 g1
  obtain ⟨op, e2, rfl, _⟩ := DataW.trod_int Tryz.underlying3 g2
  obtain ⟨ev, e3, rfl, _⟩ := DataW.trod_string Tryz.underlying9 g3
  obtain ⟨v, l, e4, hr, hb⟩ := open_listV (f := depX) (size := DepT.size) Tryz.underlying23 k4 (by omega) (fun cs => .agg cs.toArray) (fun cs' _ _ => by simp [Value.cells]) (fun n' cs' y hn _ hy => ih n' (by omega) cs' y hy) g4
  have hsl : v.oneCell' = true := by
    have hr' := hr
    unfold rowOf at hr'
    simp only [VR] at hr'
    obtain ⟨u, _, h0 | ⟨b, o, c, rfl, _⟩⟩ := hr'
    · rcases h0 with ⟨_, rfl | ⟨a, c, rfl⟩⟩ <;> rfl
    · rfl
  simp only [List.cons.injEq, and_true] at e0 e1 e2 e3 e4
  subst e0 e1 e2 e3 e4
  refine ⟨.mk k nm.data.toList op ev.data.toList l, ⟨?_, ?_⟩, ?_⟩
  · refine depX_shut _ _ _ ?_
    simp only [VR]
    refine ⟨_, .cons (by simp only [VR]; rfl) (.cons (by simp only [VR]; exact S_of nm) (.cons (by simp only [VR]; rfl) (.cons (by simp only [VR]; exact S_of ev) (.cons hr .nil)))), rfl⟩
  · intro c hc
    simp only [List.mem_cons, List.not_mem_nil, or_false] at hc
    rcases hc with rfl | rfl | rfl | rfl | rfl
    · rfl
    · rfl
    · rfl
    · rfl
    · exact hsl
  · rw [argsSize_sum] at hb
    simp only [DepT.size, List.map_cons, List.map_nil, Rows.uptoBulk, Rows.uptoBulkAll]
    omega
set_option maxRecDepth 100000 in
theorem open_depV {r : Reach} {b0 : Nat} {v : Value} {d : DataW H} {p : List MemPlace} (hv : Value.okWide Tryz.prog W r b0 25 v) (h : DataW.Trod enc Tryz.prog W 0 (fun _ => true) true 25 v d p) :
    ∃ t : DepT, VR (ofF (allF W)) (depX t) v ∧ t.size ≤ Rows.uptoBulk d := by
  obtain ⟨cs, rfl, _⟩ := Go.WideShapes.okWide_struct Tryz.underlying25 hv
  obtain ⟨fuel, hf⟩ := h
  obtain ⟨t, h1, h2⟩ := open_depVF fuel _ _ hf
  exact ⟨t, by have := h1.1; simpa [Value.cells] using this, h2⟩
end
theorem FnV.calls {P : Program} {f : Nat} {al : List AV} {W : World} {vs : List Value} (h : FnV P f al (.bool true)) (hv : VRl (ofF (allF W)) al vs) : Calls P f vs.toArray W (Ret fun v w' => v = .bool true ∧ Below W.heap.size W w') :=
  (h (allF W) W vs (fro_all W) hv).mono fun e w' hh => by
    obtain ⟨v, he, hb, F', _, _, _, k⟩ := hh
    simp only [VR] at k
    exact ⟨v, he, k, hb⟩
end Sv
end Go.Proofs.YtlfjokcbkopfeaaGreatDoor
end
section
namespace Go.Proofs.YtlfjokcbkopfeaaGreatDoor
open Go Go.RowKit
set_option linter.unusedSimpArgs false
set_option linter.unusedVariables false
namespace Sv
section
variable {H : Type} {enc : TypeId × Value → H} {W : World}
theorem one_cells {v : Value} (h : v.oneCell' = true) : v.cells.toList = [v] := by cases v <;> simp_all [Value.cells, Value.oneCell']
theorem row_one {sz n : Nat} {g : Nat → AV} {v : Value} (h : VR (ofF (allF W)) (.row sz n g) v) : v.oneCell' = true := by
 simp only [VR] at h
 obtain ⟨u, _, h0 | ⟨b, o, c, rfl, _⟩⟩ := h
 ·rcases h0 with ⟨_, rfl | ⟨a, c, rfl⟩⟩ <;> rfl
 ·rfl
theorem files_sum (l : List (List UInt8)) : (l.map fun x => x.length + 1).sum = filesSize l := by
 induction l with
 | nil => rfl
 | cons d r ih => simp only [List.map_cons, List.sum_cons, filesSize, ih]; omega
theorem open_strsV {fuel : Nat} {cs : List Value} {y : DataW H × List MemPlace} (h : DataW.trod enc Tryz.prog W 0 (fun _ => true) true fuel 36 cs = some y) :
  ∃ (v : Value) (l : List (List UInt8)), cs = [v] ∧ VR (ofF (allF W)) (strs l) v ∧ filesSize l + 1 ≤ Rows.uptoBulk y.1 := by
 obtain ⟨v, l, h1, h2, h3⟩ := open_listV (f := AV.str) (size := fun x => x.length + 1) (sz := 1) Tryz.underlying36 (show Tryz.prog.cellsOf 9 = 1 by kernel_rfl) (by omega) (fun cs => cs.headD undef) (fun cs' hl ho => by
  match cs', hl with
  | [c], _ => exact one_cells (ho c (by simp))) (fun n cs' y _ hl hy => by
  obtain ⟨s, e, rfl, _⟩ := DataW.trod_string Tryz.underlying9 hy
  subst e
  exact ⟨s.data.toList, ⟨by first | (simp only [VR, List.headD]; done) | (simp only [VR, List.headD]; exact S_of s), by intro c hc; simp at hc; subst hc; rfl⟩, by simp [Rows.uptoBulk]⟩) h
 exact ⟨v, l, h1, h2, by rw [files_sum] at h3; exact h3⟩
theorem ones_sum {α : Type} (l : List α) : (l.map fun _ => 1).sum = l.length := by
 induction l with
 | nil => rfl
 | cons d r ih => simp only [List.map_cons, List.sum_cons, List.length_cons, ih]; omega
abbrev I64 := { x : Int // -9223372036854775808 ≤ x ∧ x ≤ 9223372036854775807 }
instance : Inhabited I64 := ⟨⟨0, by decide⟩⟩
theorem i64_wf {n : Int} (h : (Lit.int .i64 n).wf = true) : -9223372036854775808 ≤ n ∧ n ≤ 9223372036854775807 := by
 simp only [Lit.wf, Bool.and_eq_true, decide_eq_true_eq] at h
 rw [show IntKind.min .i64 = -9223372036854775808 by kernel_rfl, show IntKind.max .i64 = 9223372036854775807 by kernel_rfl] at h
 exact h
theorem open_numsV {fuel : Nat} {cs : List Value} {y : DataW H × List MemPlace} (h : DataW.trod enc Tryz.prog W 0 (fun _ => true) true fuel 26 cs = some y) :
  ∃ (v : Value) (l : List Int), cs = [v] ∧ VR (ofF (allF W)) (nums l) v ∧ l.length + 1 ≤ Rows.uptoBulk y.1 ∧ ∀ i, i < l.length → -9223372036854775808 ≤ nth l i ∧ nth l i ≤ 9223372036854775807 := by
 obtain ⟨v, l, h1, h2, h3⟩ := open_listV (α := I64) (f := fun x => AV.int .i64 x.1) (size := fun _ => 1) (sz := 1) Tryz.underlying26 (show Tryz.prog.cellsOf 3 = 1 by kernel_rfl) (by omega) (fun cs => cs.headD undef) (fun cs' hl ho => by
  match cs', hl with
  | [c], _ => exact one_cells (ho c (by simp))) (fun n cs' y _ hl hy => by
  obtain ⟨s, e, rfl, hw⟩ := DataW.trod_int Tryz.underlying3 hy
  subst e
  exact ⟨⟨s, i64_wf hw⟩, ⟨by simp only [VR, List.headD], by intro c hc; simp at hc; subst hc; rfl⟩, by simp [Rows.uptoBulk]⟩) h
 have hn : ∀ i, i < l.length → nth (l.map Subtype.val) i = (nth l i).1 := fun i hi => by simp [nth, hi]
 refine ⟨v, l.map Subtype.val, h1, ?_, by rw [List.length_map]; rw [ones_sum] at h3; exact h3, fun i hi => ?_⟩
 ·refine Imp.trans (b := .row 1 (l.map Subtype.val).length (fun i => .int .i64 (nth l i).1)) ?_ (Imp.row fun i hi => Imp.of_eq (by rw [hn i (by simpa using hi)])) _ _ h2
  rw [List.length_map]; exact Imp.refl
 ·rw [List.length_map] at hi
  rw [hn i hi]; exact (nth l i).2
theorem open_depsV {fuel : Nat} {cs : List Value} {y : DataW H × List MemPlace} (h : DataW.trod enc Tryz.prog W 0 (fun _ => true) true fuel 23 cs = some y) :
  ∃ (v : Value) (l : List DepT), cs = [v] ∧ VR (ofF (allF W)) (deps l) v ∧ argsSize l + 1 ≤ Rows.uptoBulk y.1 := by
 obtain ⟨v, l, h1, h2, h3⟩ := open_listV (f := depX) (size := DepT.size) Tryz.underlying23 (show Tryz.prog.cellsOf 25 = 5 by kernel_rfl) (by omega) (fun cs => .agg cs.toArray) (fun cs' _ _ => by simp [Value.cells]) (fun n cs' y _ _ hy => open_depVF n cs' y hy) h
 exact ⟨v, l, h1, h2, by rw [argsSize_sum] at h3; exact h3⟩
set_option maxHeartbeats 1000000 in
set_option maxRecDepth 100000 in
theorem open_pkgV {fuel : Nat} {cs : List Value} {x : DataW H × List MemPlace} (h : DataW.trod enc Tryz.prog W 0 (fun _ => true) true fuel 38 cs = some x) : ∃ d : PkgT, (VR (ofF (allF W)) (pkgX d) (.agg cs.toArray) ∧ ∀ c ∈ cs, c.oneCell' = true) ∧ d.size + 1 ≤ Rows.uptoBulk x.1 := by
 obtain ⟨xs, n, hf, rfl, hl, hxs, hfs⟩ := DataW.trod_struct Tryz.underlying38 h
 have hl' : cs.length = 12 := hl.trans (by kernel_rfl)
 match cs, hl' with
 | [c0, c1, c2, c3, c4, c5, c6, c7, c8, c9, c10, c11], _ =>
 match xs, hxs with
 | [y0, y1, y2, y3, y4, y5, y6, y7, y8, y9, y10, y11], _ =>
 have g0 : DataW.trod enc Tryz.prog W 0 (fun _ => true) true n 9 [c0] = some y0 := by
  have g : DataW.trod enc Tryz.prog W 0 (fun _ => true) true n 9 (([c0, c1, c2, c3, c4, c5, c6, c7, c8, c9, c10, c11].drop 0).take (Tryz.prog.cellsOf 9)) = some y0 := hfs 0 _ rfl
  rw [show Tryz.prog.cellsOf 9 = 1 by kernel_rfl] at g
  exact g
 have g1 : DataW.trod enc Tryz.prog W 0 (fun _ => true) true n 9 [c1] = some y1 := by
  have g : DataW.trod enc Tryz.prog W 0 (fun _ => true) true n 9 (([c0, c1, c2, c3, c4, c5, c6, c7, c8, c9, c10, c11].drop 1).take (Tryz.prog.cellsOf 9)) = some y1 := hfs 1 _ rfl
  rw [show Tryz.prog.cellsOf 9 = 1 by kernel_rfl] at g
  exact g
 have g2 : DataW.trod enc Tryz.prog W 0 (fun _ => true) true n 9 [c2] = some y2 := by
  have g : DataW.trod enc Tryz.prog W 0 (fun _ => true) true n 9 (([c0, c1, c2, c3, c4, c5, c6, c7, c8, c9, c10, c11].drop 2).take (Tryz.prog.cellsOf 9)) = some y2 := hfs 2 _ rfl
  rw [show Tryz.prog.cellsOf 9 = 1 by kernel_rfl] at g
  exact g
 have g3 : DataW.trod enc Tryz.prog W 0 (fun _ => true) true n 9 [c3] = some y3 := by
  have g : DataW.trod enc Tryz.prog W 0 (fun _ => true) true n 9 (([c0, c1, c2, c3, c4, c5, c6, c7, c8, c9, c10, c11].drop 3).take (Tryz.prog.cellsOf 9)) = some y3 := hfs 3 _ rfl
  rw [show Tryz.prog.cellsOf 9 = 1 by kernel_rfl] at g
  exact g
 have g4 : DataW.trod enc Tryz.prog W 0 (fun _ => true) true n 23 [c4] = some y4 := by
  have g : DataW.trod enc Tryz.prog W 0 (fun _ => true) true n 23 (([c0, c1, c2, c3, c4, c5, c6, c7, c8, c9, c10, c11].drop 4).take (Tryz.prog.cellsOf 23)) = some y4 := hfs 4 _ rfl
  rw [show Tryz.prog.cellsOf 23 = 1 by kernel_rfl] at g
  exact g
 have g5 : DataW.trod enc Tryz.prog W 0 (fun _ => true) true n 23 [c5] = some y5 := by
  have g : DataW.trod enc Tryz.prog W 0 (fun _ => true) true n 23 (([c0, c1, c2, c3, c4, c5, c6, c7, c8, c9, c10, c11].drop 5).take (Tryz.prog.cellsOf 23)) = some y5 := hfs 5 _ rfl
  rw [show Tryz.prog.cellsOf 23 = 1 by kernel_rfl] at g
  exact g
 have g6 : DataW.trod enc Tryz.prog W 0 (fun _ => true) true n 23 [c6] = some y6 := by
  have g : DataW.trod enc Tryz.prog W 0 (fun _ => true) true n 23 (([c0, c1, c2, c3, c4, c5, c6, c7, c8, c9, c10, c11].drop 6).take (Tryz.prog.cellsOf 23)) = some y6 := hfs 6 _ rfl
  rw [show Tryz.prog.cellsOf 23 = 1 by kernel_rfl] at g
  exact g
 have g7 : DataW.trod enc Tryz.prog W 0 (fun _ => true) true n 23 [c7] = some y7 := by
  have g : DataW.trod enc Tryz.prog W 0 (fun _ => true) true n 23 (([c0, c1, c2, c3, c4, c5, c6, c7, c8, c9, c10, c11].drop 7).take (Tryz.prog.cellsOf 23)) = some y7 := hfs 7 _ rfl
  rw [show Tryz.prog.cellsOf 23 = 1 by kernel_rfl] at g
  exact g
 have g8 : DataW.trod enc Tryz.prog W 0 (fun _ => true) true n 23 [c8] = some y8 := by
  have g : DataW.trod enc Tryz.prog W 0 (fun _ => true) true n 23 (([c0, c1, c2, c3, c4, c5, c6, c7, c8, c9, c10, c11].drop 8).take (Tryz.prog.cellsOf 23)) = some y8 := hfs 8 _ rfl
  rw [show Tryz.prog.cellsOf 23 = 1 by kernel_rfl] at g
  exact g
 have g9 : DataW.trod enc Tryz.prog W 0 (fun _ => true) true n 23 [c9] = some y9 := by
  have g : DataW.trod enc Tryz.prog W 0 (fun _ => true) true n 23 (([c0, c1, c2, c3, c4, c5, c6, c7, c8, c9, c10, c11].drop 9).take (Tryz.prog.cellsOf 23)) = some y9 := hfs 9 _ rfl
  rw [show Tryz.prog.cellsOf 23 = 1 by kernel_rfl] at g
  exact g
 have g10 : DataW.trod enc Tryz.prog W 0 (fun _ => true) true n 23 [c10] = some y10 := by
  have g : DataW.trod enc Tryz.prog W 0 (fun _ => true) true n 23 (([c0, c1, c2, c3, c4, c5, c6, c7, c8, c9, c10, c11].drop 10).take (Tryz.prog.cellsOf 23)) = some y10 := hfs 10 _ rfl
  rw [show Tryz.prog.cellsOf 23 = 1 by kernel_rfl] at g
  exact g
 have g11 : DataW.trod enc Tryz.prog W 0 (fun _ => true) true n 36 [c11] = some y11 := by
  have g : DataW.trod enc Tryz.prog W 0 (fun _ => true) true n 36 (([c0, c1, c2, c3, c4, c5, c6, c7, c8, c9, c10, c11].drop 11).take (Tryz.prog.cellsOf 36)) = some y11 := hfs 11 _ rfl
  rw [show Tryz.prog.cellsOf 36 = 1 by kernel_rfl] at g
  exact g
 obtain ⟨s0, e0, rfl, _⟩ := DataW.trod_string Tryz.underlying9 g0
 obtain ⟨s1, e1, rfl, _⟩ := DataW.trod_string Tryz.underlying9 g1
 obtain ⟨s2, e2, rfl, _⟩ := DataW.trod_string Tryz.underlying9 g2
 obtain ⟨s3, e3, rfl, _⟩ := DataW.trod_string Tryz.underlying9 g3
 obtain ⟨w4, s4, e4, r4, b4⟩ := open_depsV g4
 obtain ⟨w5, s5, e5, r5, b5⟩ := open_depsV g5
 obtain ⟨w6, s6, e6, r6, b6⟩ := open_depsV g6
 obtain ⟨w7, s7, e7, r7, b7⟩ := open_depsV g7
 obtain ⟨w8, s8, e8, r8, b8⟩ := open_depsV g8
 obtain ⟨w9, s9, e9, r9, b9⟩ := open_depsV g9
 obtain ⟨w10, s10, e10, r10, b10⟩ := open_depsV g10
 obtain ⟨w11, s11, e11, r11, b11⟩ := open_strsV g11
 simp only [List.cons.injEq, and_true] at e0 e1 e2 e3 e4 e5 e6 e7 e8 e9 e10 e11
 subst e0 e1 e2 e3 e4 e5 e6 e7 e8 e9 e10 e11
 refine ⟨⟨s0.data.toList, s1.data.toList, s2.data.toList, s3.data.toList, s4, s5, s6, s7, s8, s9, s10, s11⟩, ⟨?_, ?_⟩, ?_⟩
 ·unfold pkgX
  simp only [VR]
  exact ⟨_, .cons (by first | (simp only [VR]; done) | (simp only [VR]; exact S_of s0)) (.cons (by first | (simp only [VR]; done) | (simp only [VR]; exact S_of s1)) (.cons (by first | (simp only [VR]; done) | (simp only [VR]; exact S_of s2)) (.cons (by first | (simp only [VR]; done) | (simp only [VR]; exact S_of s3)) (.cons r4 (.cons r5 (.cons r6 (.cons r7 (.cons r8 (.cons r9 (.cons r10 (.cons r11 (.nil)))))))))))), rfl⟩
 ·intro c hc
  simp only [List.mem_cons, List.not_mem_nil, or_false] at hc
  rcases hc with rfl | rfl | rfl | rfl | rfl | rfl | rfl | rfl | rfl | rfl | rfl | rfl
  ·exact rfl
  ·exact rfl
  ·exact rfl
  ·exact rfl
  ·exact row_one r4
  ·exact row_one r5
  ·exact row_one r6
  ·exact row_one r7
  ·exact row_one r8
  ·exact row_one r9
  ·exact row_one r10
  ·exact row_one r11
 ·simp only [PkgT.size, PkgT.depSize, List.map_cons, List.map_nil, Rows.uptoBulk, Rows.uptoBulkAll]
  omega
theorem pkgs_sum (l : List PkgT) : (l.map fun p => p.size + 1).sum = pkgsSize l := by
 induction l with
 | nil => rfl
 | cons d r ih => simp only [List.map_cons, List.sum_cons, pkgsSize, ih]; omega
theorem open_pkgsV {fuel : Nat} {cs : List Value} {y : DataW H × List MemPlace} (h : DataW.trod enc Tryz.prog W 0 (fun _ => true) true fuel 39 cs = some y) :
  ∃ (v : Value) (l : List PkgT), cs = [v] ∧ VR (ofF (allF W)) (rowOf 12 pkgX l) v ∧ pkgsSize l + 1 ≤ Rows.uptoBulk y.1 := by
 obtain ⟨v, l, h1, h2, h3⟩ := open_listV (f := pkgX) (size := fun p => p.size + 1) Tryz.underlying39 (show Tryz.prog.cellsOf 38 = 12 by kernel_rfl) (by omega) (fun cs => .agg cs.toArray) (fun cs' _ _ => by simp [Value.cells]) (fun n cs' y _ _ hy => by
  obtain ⟨d, h1, h2⟩ := open_pkgV hy
  exact ⟨d, h1, h2⟩) h
 exact ⟨v, l, h1, h2, by rw [pkgs_sum] at h3; exact h3⟩
set_option maxHeartbeats 1000000 in
set_option maxRecDepth 100000 in
theorem open_repoV {fuel : Nat} {cs : List Value} {x : DataW H × List MemPlace} (h : DataW.trod enc Tryz.prog W 0 (fun _ => true) true fuel 41 cs = some x) : ∃ d : RepoT, (VR (ofF (allF W)) (repoX d) (.agg cs.toArray) ∧ ∀ c ∈ cs, c.oneCell' = true) ∧ d.size + 1 ≤ Rows.uptoBulk x.1 := by
 obtain ⟨xs, n, hf, rfl, hl, hxs, hfs⟩ := DataW.trod_struct Tryz.underlying41 h
 have hl' : cs.length = 4 := hl.trans (by kernel_rfl)
 match cs, hl' with
 | [c0, c1, c2, c3], _ =>
 match xs, hxs with
 | [y0, y1, y2, y3], _ =>
 have g0 : DataW.trod enc Tryz.prog W 0 (fun _ => true) true n 9 [c0] = some y0 := by
  have g : DataW.trod enc Tryz.prog W 0 (fun _ => true) true n 9 (([c0, c1, c2, c3].drop 0).take (Tryz.prog.cellsOf 9)) = some y0 := hfs 0 _ rfl
  rw [show Tryz.prog.cellsOf 9 = 1 by kernel_rfl] at g
  exact g
 have g1 : DataW.trod enc Tryz.prog W 0 (fun _ => true) true n 3 [c1] = some y1 := by
  have g : DataW.trod enc Tryz.prog W 0 (fun _ => true) true n 3 (([c0, c1, c2, c3].drop 1).take (Tryz.prog.cellsOf 3)) = some y1 := hfs 1 _ rfl
  rw [show Tryz.prog.cellsOf 3 = 1 by kernel_rfl] at g
  exact g
 have g2 : DataW.trod enc Tryz.prog W 0 (fun _ => true) true n 4 [c2] = some y2 := by
  have g : DataW.trod enc Tryz.prog W 0 (fun _ => true) true n 4 (([c0, c1, c2, c3].drop 2).take (Tryz.prog.cellsOf 4)) = some y2 := hfs 2 _ rfl
  rw [show Tryz.prog.cellsOf 4 = 1 by kernel_rfl] at g
  exact g
 have g3 : DataW.trod enc Tryz.prog W 0 (fun _ => true) true n 39 [c3] = some y3 := by
  have g : DataW.trod enc Tryz.prog W 0 (fun _ => true) true n 39 (([c0, c1, c2, c3].drop 3).take (Tryz.prog.cellsOf 39)) = some y3 := hfs 3 _ rfl
  rw [show Tryz.prog.cellsOf 39 = 1 by kernel_rfl] at g
  exact g
 obtain ⟨s0, e0, rfl, _⟩ := DataW.trod_string Tryz.underlying9 g0
 obtain ⟨s1, e1, rfl, _⟩ := DataW.trod_int Tryz.underlying3 g1
 obtain ⟨s2, e2, rfl⟩ := DataW.trod_bool Tryz.underlying4 g2
 obtain ⟨w3, s3, e3, r3, b3⟩ := open_pkgsV g3
 simp only [List.cons.injEq, and_true] at e0 e1 e2 e3
 subst e0 e1 e2 e3
 refine ⟨⟨s0.data.toList, s1, s2, s3⟩, ⟨?_, ?_⟩, ?_⟩
 ·unfold repoX
  simp only [VR]
  exact ⟨_, .cons (by first | (simp only [VR]; done) | (simp only [VR]; exact S_of s0)) (.cons (by simp only [VR]) (.cons (by simp only [VR]) (.cons r3 (.nil)))), rfl⟩
 ·intro c hc
  simp only [List.mem_cons, List.not_mem_nil, or_false] at hc
  rcases hc with rfl | rfl | rfl | rfl
  ·exact rfl
  ·exact rfl
  ·exact rfl
  ·exact row_one r3
 ·simp only [RepoT.size, List.map_cons, List.map_nil, Rows.uptoBulk, Rows.uptoBulkAll]
  omega
theorem open_reposVF {fuel : Nat} {cs : List Value} {y : DataW H × List MemPlace} (h : DataW.trod enc Tryz.prog W 0 (fun _ => true) true fuel 22 cs = some y) :
  ∃ (v : Value) (l : List RepoT), cs = [v] ∧ VR (ofF (allF W)) (rowOf 4 repoX l) v ∧ (l.map RepoT.size).sum + 1 ≤ Rows.uptoBulk y.1 :=
 open_listV (f := repoX) (size := RepoT.size) Tryz.underlying22 (show Tryz.prog.cellsOf 41 = 4 by kernel_rfl) (by omega) (fun cs => .agg cs.toArray) (fun cs' _ _ => by simp [Value.cells]) (fun n cs' y _ _ hy => by
  obtain ⟨d, h1, h2⟩ := open_repoV hy
  exact ⟨d, h1, by omega⟩) h
theorem sum_nth {l : List RepoT} : ∀ {i : Nat}, i < l.length → (nth l i).size ≤ (l.map RepoT.size).sum := by
 induction l with
 | nil => intro i h; simp at h
 | cons r l ih =>
  intro i h
  cases i with
  | zero => simp only [List.map_cons, List.sum_cons]; show r.size ≤ _; omega
  | succ i =>
   have := ih (i := i) (by simpa using h)
   simp only [List.map_cons, List.sum_cons]; show (nth l i).size ≤ _; omega
theorem sum_len : ∀ l : List RepoT, l.length ≤ (l.map RepoT.size).sum
 | [] => Nat.le_refl _
 | r :: l => by
  have := sum_len l
  have : 1 ≤ r.size := by unfold RepoT.size; omega
  simp only [List.map_cons, List.sum_cons, List.length_cons]; omega
set_option maxRecDepth 100000 in
theorem open_repos {r : Reach} {b0 : Nat} {v : Value} {d : DataW H} {p : List MemPlace} (hv : Value.okWide Tryz.prog W r b0 22 v) (h : DataW.Trod enc Tryz.prog W 0 (fun _ => true) true 22 v d p) :
  ∃ l : List RepoT, VR (ofF (allF W)) (rowOf 4 repoX l) v ∧ l.length ≤ Rows.uptoBulk d ∧ ∀ i, i < l.length → (nth l i).size ≤ Rows.uptoBulk d := by
 obtain ⟨a, len, cap, rfl⟩ := Go.WideShapes.okWide_slice Tryz.underlying22 hv
 obtain ⟨fuel, hf⟩ := h
 obtain ⟨v, l, h1, h2, h3⟩ := open_reposVF hf
 have e : Value.slice a len cap = v := by simpa [Value.cells] using h1
 subst e
 have h3 : (l.map RepoT.size).sum + 1 ≤ Rows.uptoBulk d := h3
 exact ⟨l, h2, by have := sum_len l; omega, fun i hi => by have := sum_nth hi; omega⟩
set_option maxRecDepth 100000 in
theorem open_nums {r : Reach} {b0 : Nat} {v : Value} {d : DataW H} {p : List MemPlace} (hv : Value.okWide Tryz.prog W r b0 26 v) (h : DataW.Trod enc Tryz.prog W 0 (fun _ => true) true 26 v d p) :
  ∃ l : List Int, VR (ofF (allF W)) (nums l) v ∧ l.length ≤ Rows.uptoBulk d ∧ ∀ i, i < l.length → -9223372036854775808 ≤ nth l i ∧ nth l i ≤ 9223372036854775807 := by
 obtain ⟨a, len, cap, rfl⟩ := Go.WideShapes.okWide_slice Tryz.underlying26 hv
 obtain ⟨fuel, hf⟩ := h
 obtain ⟨v, l, h1, h2, h3, h4⟩ := open_numsV hf
 have e : Value.slice a len cap = v := by simpa [Value.cells] using h1
 subst e
 have h3 : l.length + 1 ≤ Rows.uptoBulk d := h3
 exact ⟨l, h2, by omega, h4⟩
end
end Sv
end Go.Proofs.YtlfjokcbkopfeaaGreatDoor
end
