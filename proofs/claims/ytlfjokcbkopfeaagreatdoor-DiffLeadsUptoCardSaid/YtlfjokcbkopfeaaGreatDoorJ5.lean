/- The texts Diff2, Diff3, Diff5, OpenD, OpenV, OpenR of the proof, joined. Each says at its theorems what it proves. -/
import Derived.Test.YtlfjokcbkopfeaaGreatDoorJ4
import Derived.Test.YtlfjokcbkopfeaaGreatDoorRows
import Derived.ChangeArms
import Derived.WideShapes
set_option linter.unusedSimpArgs false
set_option linter.unusedVariables false
section
namespace Go.Proofs.YtlfjokcbkopfeaaGreatDoor
open Go Go.RowKit
namespace Sv
attribute [local irreducible] SW SO holds
theorem en_80 : Enters Tryz.prog 80 := enters_of Tryz.func80 (by kernel_rfl) rfl
theorem en_29 : Enters Tryz.prog 29 := enters_of Tryz.func29 (by kernel_rfl) rfl
theorem en_27 : Enters Tryz.prog 27 := enters_of Tryz.func27 (by kernel_rfl) rfl
def stepX (q : StepT) : AV := .agg [.int .i64 q.1, .int .i64 q.2.1, .int .i64 q.2.2]
theorem step_next {u : List Int} {f : Int → StepT} {i : Nat} {x : StepT} (h : i < u.length) (e : f (nth u i) = x) : ((u.take (i + 1)).map f).map stepX = ((u.take i).map f).map stepX ++ [stepX x] := by
  rw [take_nextI h, List.map_append, List.map_append]
  simp [e]
theorem apply_next {l : List Int} {q : List StepT} {i : Nat} (h : i < q.length) : applyR l (q.take (i + 1)) = applyF (applyR l (q.take i)) (nth q i) := by rw [take_nextI h, applyR_snoc]
theorem any_in {st : PoolT} {l : List Int} (h : ¬ l.any (oddB st) = true) : ∀ x ∈ l, 0 ≤ x ∧ x < st.all.length := by
  intro x hx
  have h : l.any (oddB st) = false := by simpa using h
  rw [List.any_eq_false] at h
  have := h x hx
  unfold oddB at this
  simp at this
  omega
theorem nth_in {l : List Int} {i : Nat} (h : i < l.length) : nth l i ∈ l := by rw [nth_at h]; exact List.getElem_mem h
theorem mem_nthI {l : List Int} {x : Int} (h : x ∈ l) : ∃ i, i < l.length ∧ nth l i = x := by
  obtain ⟨i, hi, e⟩ := List.getElem_of_mem h
  exact ⟨i, hi, by rw [nth_at hi, e]⟩
theorem minus_in {st : PoolT} {a b : List Int} (h : ∀ x ∈ a, 0 ≤ x ∧ x < st.all.length) : ∀ j, j < (minusZ a b).length → 0 ≤ nth (minusZ a b) j ∧ nth (minusZ a b) j < st.all.length := fun j hj => h _ (minusZ_mem.1 (nth_in hj)).1
theorem union_in {st : PoolT} {a b : List Int} (h : ∀ j, j < a.length → 0 ≤ nth a j ∧ nth a j < st.all.length) (k : ∀ j, j < b.length → 0 ≤ nth b j ∧ nth b j < st.all.length) : ∀ j, j < (unionZ a b).length → 0 ≤ nth (unionZ a b) j ∧ nth (unionZ a b) j < st.all.length := fun j hj => by
  rcases unionZ_mem.1 (nth_in hj) with q | q
  · obtain ⟨n, hn, e⟩ := mem_nthI q
    rw [← e]; exact h n hn
  · obtain ⟨n, hn, e⟩ := mem_nthI q
    rw [← e]; exact k n hn
theorem find_in {st : PoolT} {p : Int → Bool} {l : List Int} (h : ∀ j, j < l.length → 0 ≤ nth l j ∧ nth l j < st.all.length) (k : 0 ≤ findI p l) : 0 ≤ findI p l ∧ findI p l < st.all.length := by
  unfold findI at k ⊢
  have := idxF_le p l
  split at k
  · rename_i q
    rw [if_pos q]; exact h _ (by omega)
  · omega
theorem minusZ_len (a b : List Int) : (minusZ a b).length ≤ a.length := Nat.le_trans (setZ_len _) (List.length_filter_le _ _)
theorem unionZ_len (a b : List Int) : (unionZ a b).length ≤ a.length + b.length := by have := setZ_len (a ++ b); rw [List.length_append] at this; exact this
set_option maxHeartbeats 2000000 in
set_option maxRecDepth 100000 in
theorem Steps_ok (st : PoolT) (hi : IdxOk st) (a b : List Int) (ha : a.length ≤ 2097152) (hb : b.length ≤ 2097152) :
    FnV Tryz.prog 29 [(.fp (poolX st)), (nums a), (nums b)] (.tup [rowOf 3 stepX (stepsR meetsN st a b).1, .int .i64 (stepsR meetsN st a b).2]) := by
  have hcl := minusZ_len b a
  have hgl := minusZ_len a b
  have hul := unionZ_len (minusZ b a) (minusZ a b)
  refine FnV_intro [.tmp 6, .tmp 7] Tryz.func29 rfl Tryz.ntmps29 rfl rfl (fun B F hF => ?_)
  refine SW_H [] [1, 2, 3] [(1, 3)] hk0 v0 c0 ?_
  refine SW_seq ?_
  refine SW_P [] [1, 2, 3, 26] ?_
  refine SW_false (by kernel_rfl) ?_
  refine SW_skip ?_
  refine SW_P [] [1, 2, 3, 8] ?_
  refine SW_seq ?_
  refine SW_seq ?_
  refine SW_reg ?_
  refine SO_H 2 0 [] [1, 2, 3, 8, 28, 29] [] hk0 v0 c0 ?_
  refine SO_callB (s' := [(1, (nums a)), (2, (nums b)), (3, (.fp (.agg [(.fp (poolX st))]))), (8, (.fn 76 [] [(.fp (.agg [(.fp (poolX st))]))])), (28, (nums a)), (29, (.fn 76 [] [(.fp (.agg [(.fp (poolX st))]))])), (30, (.bool (a.any (oddB st))))]) (al := [(nums a), (.fn 76 [] [(.fp (.agg [(.fp (poolX st))]))])]) (al' := [(nums a), (.fn 76 [] [(.fp (.agg [(.fp (poolX st))]))])]) (h' := []) (r := (.bool (a.any (oddB st)))) (by kernel_rfl) (by exact en_59) (by kernel_rfl) (by kernel_rfl) ((intF_has a (.fn 76 [] [(.fp (.agg [(.fp (poolX st))]))]) (oddB st) (by omega) (fun j hj => oddD_fun st _)).of_args (ImpL.cons Imp.refl (ImpL.cons (Imp.clo (by kernel_rfl)) ImpL.nil))) rfl (by kernel_rfl) ?_
  obtain ⟨b1, hb1⟩ : ∃ b, b = (a.any (oddB st)) := ⟨_, rfl⟩
  refine SO_H 1 3 [] [1, 2, 3, 8, 31] [] hk0 v0 c0 ?_
  refine SO_conv 31 (a := .bool (a.any (oddB st))) (.bool b1) (by kernel_rfl) (Imp.of_eq (by rw [hb1])) ?_
  refine bool_two (b1) (fun c1 => ?_) (fun c1 => ?_)
  · refine SO_conv 31 (a := .bool (b1)) (.bool true) (by kernel_rfl) (Imp.of_eq (by rw [c1])) ?_
    refine SO_HA 4 [] [1, 2, 3, 35] [] hk0 v0 c0 ?_
    refine SW_true (by kernel_rfl) ?_
    refine SW_P [] [6, 7] ?_
    refine SW_ret ?_
    refine RK wR [.nils, (.int .i64 (69))] ?_
    subst hb1
    simp only [pack]
    rw [show stepsR meetsN st a b = ([], 69) from by unfold stepsR; rw [if_pos (.inl c1)]]
    exact (Imp.tups (ImpL.cons Imp.nil (ImpL.cons Imp.refl ImpL.nil))).same
  · refine SO_conv 31 (a := .bool (b1)) (.bool false) (by kernel_rfl) (Imp.of_eq (by rw [c1])) ?_
    refine SO_H 2 4 [] [1, 2, 3, 31, 32, 33] [] hk0 v0 c0 ?_
    refine SO_callB (s' := [(1, (nums a)), (2, (nums b)), (3, (.fp (.agg [(.fp (poolX st))]))), (31, (.bool (false))), (32, (nums b)), (33, (.fn 76 [] [(.fp (.agg [(.fp (poolX st))]))])), (34, (.bool (b.any (oddB st))))]) (al := [(nums b), (.fn 76 [] [(.fp (.agg [(.fp (poolX st))]))])]) (al' := [(nums b), (.fn 76 [] [(.fp (.agg [(.fp (poolX st))]))])]) (h' := []) (r := (.bool (b.any (oddB st)))) (by kernel_rfl) (by exact en_59) (by kernel_rfl) (by kernel_rfl) ((intF_has b (.fn 76 [] [(.fp (.agg [(.fp (poolX st))]))]) (oddB st) (by omega) (fun j hj => oddD_fun st _)).of_args (ImpL.cons Imp.refl (ImpL.cons (Imp.clo (by kernel_rfl)) ImpL.nil))) rfl (by kernel_rfl) ?_
    refine SO_HA 7 [] [1, 2, 3, 35] [] hk0 v0 c0 ?_
    refine SW_cond (q := b.any (oddB st)) (by kernel_rfl) (fun c2 => ?_) (fun c2 => ?_)
    · skip
      subst hb1
      try simp only [Bool.and_eq_true, Bool.or_eq_true, Bool.and_eq_false_iff, Bool.or_eq_false_iff, Bool.not_eq_true', Bool.not_eq_false', decide_eq_true_eq, decide_eq_false_iff_not] at c2
      refine SW_P [] [6, 7] ?_
      refine SW_ret ?_
      refine RK wR [.nils, (.int .i64 (69))] ?_
      simp only [pack]
      rw [show stepsR meetsN st a b = ([], 69) from by unfold stepsR; rw [if_pos (.inr c2)]]
      exact (Imp.tups (ImpL.cons Imp.nil (ImpL.cons Imp.refl ImpL.nil))).same
    · skip
      subst hb1
      try simp only [Bool.and_eq_true, Bool.or_eq_true, Bool.and_eq_false_iff, Bool.or_eq_false_iff, Bool.not_eq_true', Bool.not_eq_false', decide_eq_true_eq, decide_eq_false_iff_not] at c2
      have hra := any_in (st := st) (l := a) (by rw [c1]; simp)
      have hrb := any_in (st := st) (l := b) (by rw [c2]; simp)
      have hcr := minus_in (b := a) hrb
      have hgr := minus_in (b := b) hra
      have hur := union_in hcr hgr
      refine SW_skip ?_
      refine SW_H [] [3, 9, 10] [] (hk 2 en_24 (idsMinus_ok b a (by omega) (by first | omega | simp)) <| hk 5 en_24 (idsMinus_ok a b (by omega) (by first | omega | simp)) <| hk0) v0 c0 ?_
      refine SW_H [] [3, 9, 10, 11] [] (hk 1 en_10 (provNew_ok st hi.1 hi.2) <| hk0) v0 c0 ?_
      refine SW_H [] [3, 9, 10, 11, 12] [(0, 11)] hk0 v0 c0 ?_
      refine SW_seq ?_
      refine SW_H [] [3, 9, 10, 11, 12, 46, 47, 48] [] (hk 2 en_73 (idsUnion_ok (minusZ b a) (minusZ a b) (by omega) (by first | omega | simp)) <| hk0) v0 c0 ?_
      refine SW_block ?_
      refine SW_thaw 64 3 12 (y := ⟨[(3, (.fp (.agg [(.fp (poolX st))]))), (9, (nums (minusZ b a))), (10, (nums (minusZ a b))), (11, (.fp (.agg [(.fp (indexX st))]))), (12, (.own 2)), (46, (nums (unionZ (minusZ b a) (minusZ a b)))), (47, (.int .i64 (((unionZ (minusZ b a) (minusZ a b)).length : Int)))), (48, (.int .i64 (0)))], [(2, (.grow [] 64 3))], 3⟩) (by kernel_rfl) (by kernel_rfl) ?_
      refine SW_L (fun g y => ∃ (i : Nat), i ≤ (unionZ (minusZ b a) (minusZ a b)).length ∧ y = ⟨[(3, (.fp (.agg [(.fp (poolX st))]))), (9, (nums (minusZ b a))), (10, (nums (minusZ a b))), (11, (.fp (.agg [(.fp (indexX st))]))), (12, (.own 2)), (46, (nums (unionZ (minusZ b a) (minusZ a b)))), (47, (.int .i64 (((unionZ (minusZ b a) (minusZ a b)).length : Int)))), (48, (.int .i64 ((i : Int))))], [(2, (.grow ((((unionZ (minusZ b a) (minusZ a b)).take i).map (stepR meetsN st (minusZ b a) (minusZ a b))).map stepX) 64 3))], 3⟩ ∧ g = (unionZ (minusZ b a) (minusZ a b)).length - i) [3, 9, 10, 11, 12, 46, 47, 48] 3 _ (by omega) ⟨0, (by omega), (by kernel_rfl), rfl⟩ ?_
      rintro g1 y1 ⟨i, f1_1, rfl, rfl⟩
      refine SW_P [] [3, 9, 10, 11, 12, 46, 47, 48, 49] ?_
      refine SW_seq ?_
      refine SW_if (p := (i : Int) < ((unionZ (minusZ b a) (minusZ a b)).length : Int)) (by kernel_rfl) (fun c3 => ?_) (fun c3 => ?_)
      · skip
        have hui := hur i (by omega)
        have hpl := pkg_lens (hi.2 (nth (unionZ (minusZ b a) (minusZ a b)) i).toNat (by omega))
        refine SW_skip ?_
        refine SW_seq ?_
        refine SW_block ?_
        refine SW_H [] [3, 9, 10, 11, 12, 14, 46, 47, 48] [] hk0 v0 (cc 0 (p := (0 ≤ (i : Int) ∧ i < (unionZ (minusZ b a) (minusZ a b)).length)) (by first | omega | (simp; omega) | (simp; done) | (intros; simp_all; omega) | (intros; simp_all; done)) <| c0) ?_
        refine SW_H [] [3, 9, 10, 11, 12, 14, 15, 46, 47, 48] [(0, 14), (9, 15)] (hk 2 (al := [(.fp (poolX st)), (.int .i64 (nth (unionZ (minusZ b a) (minusZ a b)) i))]) en_44 ((Package_ok st (nth (unionZ (minusZ b a) (minusZ a b)) i).toNat (by omega) (hi.2 _ (by omega))).of_args (ImpL.cons Imp.refl (ImpL.cons (Imp.of_eq (congrArg (AV.int .i64) (int_of hui.1))) ImpL.nil))) <| hk0) v0 c0 ?_
        refine SW_P [] [3, 9, 10, 11, 12, 14, 15, 18, 46, 47, 48] ?_
        refine SW_P [] [3, 9, 10, 11, 12, 14, 15, 18, 19, 46, 47, 48] ?_
        refine SW_seq ?_
        refine SW_H [] [3, 9, 10, 11, 12, 14, 15, 18, 19, 46, 47, 48, 64] [] (hk 2 en_78 ((containsI_ok (minusZ b a) (nth (unionZ (minusZ b a) (minusZ a b)) i) (by omega)).to (Same.of_eq (by rw [any_mem]))) <| hk0) v0 c0 ?_
        refine SW_if (p := nth (unionZ (minusZ b a) (minusZ a b)) i ∈ (minusZ b a)) (by kernel_rfl) (fun c4 => ?_) (fun c4 => ?_)
        · skip
          refine SW_P [] [3, 9, 10, 11, 12, 15, 18, 19, 46, 47, 48] ?_
          refine SW_seq ?_
          refine SW_H [] [3, 9, 10, 11, 12, 15, 19, 46, 47, 48] [] (hk 2 (al := [(nums (minusZ a b)), (.int .i64 (-1)), (.fn 77 [] [(.fp (.agg [(.fp (poolX st))])), (.fp (pkgX ((nth st.all ((nth (unionZ (minusZ b a) (minusZ a b)) i).toNat)).1)))])]) en_79 ((find_ok (minusZ a b) (.fn 77 [] [(.fp (.agg [(.fp (poolX st))])), (.fp (pkgX ((nth st.all ((nth (unionZ (minusZ b a) (minusZ a b)) i).toNat)).1)))]) (sameN st (nth (unionZ (minusZ b a) (minusZ a b)) i)) (by omega) (fun j hj => namedD_fun st hi (nth (unionZ (minusZ b a) (minusZ a b)) i) _ (hgr j hj))).of_args (ImpL.cons Imp.refl (ImpL.cons Imp.refl (ImpL.cons (Imp.clo (by kernel_rfl)) ImpL.nil)))) <| hk0) v0 c0 ?_
          refine SW_P [] [3, 9, 10, 11, 12, 15, 19, 46, 47, 48, 72] ?_
          refine SW_if (p := 0 ≤ (findI (sameN st (nth (unionZ (minusZ b a) (minusZ a b)) i)) (minusZ a b))) (by kernel_rfl) (fun c5 => ?_) (fun c5 => ?_)
          · skip
            have hfo := find_in hgr c5
            have hpo := pkg_lens (hi.2 (findI (sameN st (nth (unionZ (minusZ b a) (minusZ a b)) i)) (minusZ a b)).toNat (by omega))
            have hcm := cmpR_in st.kind (nth st.all (nth (unionZ (minusZ b a) (minusZ a b)) i).toNat).1.evr (nth st.all (findI (sameN st (nth (unionZ (minusZ b a) (minusZ a b)) i)) (minusZ a b)).toNat).1.evr
            unfold Sgn at hcm
            refine SW_H [] [3, 9, 10, 11, 12, 15, 19, 20, 46, 47, 48] [(10, 20)] (hk 3 (al := [(.fp (poolX st)), (.int .i64 ((findI (sameN st (nth (unionZ (minusZ b a) (minusZ a b)) i)) (minusZ a b))))]) en_44 ((Package_ok st (findI (sameN st (nth (unionZ (minusZ b a) (minusZ a b)) i)) (minusZ a b)).toNat (by omega) (hi.2 _ (by omega))).of_args (ImpL.cons Imp.refl (ImpL.cons (Imp.of_eq (congrArg (AV.int .i64) (int_of hfo.1))) ImpL.nil))) <| hk0) v0 c0 ?_
            refine SW_D [] [3, 9, 10, 11, 12, 19, 23, 46, 47, 48] [] (hk 1 en_42 (Kind_ok st) <| hk 6 en_80 (compare_ok st.kind (((nth st.all ((nth (unionZ (minusZ b a) (minusZ a b)) i).toNat)).1).evr) (((nth st.all ((findI (sameN st (nth (unionZ (minusZ b a) (minusZ a b)) i)) (minusZ a b)).toNat)).1).evr) (by omega) (by omega)) <| hk0) v0 c0 ?_
            refine SW_reg ?_
            refine SO_HA (CS := [(2, (-9223372036854775808 ≤ ((cmpR st.kind (((nth st.all ((nth (unionZ (minusZ b a) (minusZ a b)) i).toNat)).1).evr) (((nth st.all ((findI (sameN st (nth (unionZ (minusZ b a) (minusZ a b)) i)) (minusZ a b)).toNat)).1).evr)).1) + 1 ∧ ((cmpR st.kind (((nth st.all ((nth (unionZ (minusZ b a) (minusZ a b)) i).toNat)).1).evr) (((nth st.all ((findI (sameN st (nth (unionZ (minusZ b a) (minusZ a b)) i)) (minusZ a b)).toNat)).1).evr)).1) + 1 ≤ 9223372036854775807)), (3, (0 ≤ ((cmpR st.kind (((nth st.all ((nth (unionZ (minusZ b a) (minusZ a b)) i).toNat)).1).evr) (((nth st.all ((findI (sameN st (nth (unionZ (minusZ b a) (minusZ a b)) i)) (minusZ a b)).toNat)).1).evr)).1) + 1 ∧ (((cmpR st.kind (((nth st.all ((nth (unionZ (minusZ b a) (minusZ a b)) i).toNat)).1).evr) (((nth st.all ((findI (sameN st (nth (unionZ (minusZ b a) (minusZ a b)) i)) (minusZ a b)).toNat)).1).evr)).1) + 1).toNat < [4, 5, 3].length))]) 0 [] [3, 9, 10, 11, 12, 19, 46, 47, 48] [] (hk 0 en_81 (kindsD_ok) <| hk0) v0 (by refine cc _ ?_ <| cc _ ?_ c0 <;> first | omega | (simp; omega) | (simp; done) | (intros; simp_all; omega) | (intros; simp_all; done)) ?_
            refine SW_H [] [3, 9, 10, 11, 12, 46, 47, 48] [] hk0 v0 (cc 3 (p := ((((((unionZ (minusZ b a) (minusZ a b)).take i).map (stepR meetsN st (minusZ b a) (minusZ a b))).map stepX).length + 1) * 24 ≤ 140737488355328)) (by first | omega | (simp; omega) | (simp; done) | (intros; simp_all; omega) | (intros; simp_all; done)) <| c0) ?_
            refine SW_exit ?_
            refine SW_reg ?_
            refine SO_HA 0 [] [3, 9, 10, 11, 12, 46, 47, 48] [] hk0 v0 (cc 0 (p := (-9223372036854775808 ≤ (i : Int) + 1 ∧ (i : Int) + 1 ≤ 9223372036854775807)) (by first | omega | (simp; omega) | (simp; done) | (intros; simp_all; omega) | (intros; simp_all; done)) <| c0) ?_
            refine ⟨by kernel_rfl, _, ?_, i + 1, ?_, (Eq.trans (b := (⟨[(3, (.fp (.agg [(.fp (poolX st))]))), (9, (nums (minusZ b a))), (10, (nums (minusZ a b))), (11, (.fp (.agg [(.fp (indexX st))]))), (12, (.own 2)), (46, (nums (unionZ (minusZ b a) (minusZ a b)))), (47, (.int .i64 (((unionZ (minusZ b a) (minusZ a b)).length : Int)))), (48, (.int .i64 ((i : Int) + 1)))], [(2, (.grow (((((unionZ (minusZ b a) (minusZ a b)).take i).map (stepR meetsN st (minusZ b a) (minusZ a b))).map stepX) ++ ([(.agg [(.int .i64 (nth [4, 5, 3] ((((cmpR st.kind (((nth st.all ((nth (unionZ (minusZ b a) (minusZ a b)) i).toNat)).1).evr) (((nth st.all ((findI (sameN st (nth (unionZ (minusZ b a) (minusZ a b)) i)) (minusZ a b)).toNat)).1).evr)).1) + 1).toNat))), (.int .i64 (nth (unionZ (minusZ b a) (minusZ a b)) i)), (.int .i64 ((findI (sameN st (nth (unionZ (minusZ b a) (minusZ a b)) i)) (minusZ a b))))])] : List AV)) 64 3))], 3⟩ : St)) (by kernel_rfl) (by rw [step_next (x := (nth [4, 5, 3] ((cmpR st.kind (nth st.all (nth (unionZ (minusZ b a) (minusZ a b)) i).toNat).1.evr (nth st.all (findI (sameN st (nth (unionZ (minusZ b a) (minusZ a b)) i)) (minusZ a b)).toNat).1.evr).1 + 1).toNat, (nth (unionZ (minusZ b a) (minusZ a b)) i), (findI (sameN st (nth (unionZ (minusZ b a) (minusZ a b)) i)) (minusZ a b)))) (f := (stepR meetsN st (minusZ b a) (minusZ a b))) (by omega) (by unfold stepR comeS; rw [if_pos c4, if_pos c5]; rfl)] <;> kernel_rfl)), rfl⟩
            · omega
            · omega
          · skip
            refine SW_skip ?_
            refine SW_H [] [3, 9, 10, 11, 12, 46, 47, 48] [] hk0 v0 (cc 3 (p := ((((((unionZ (minusZ b a) (minusZ a b)).take i).map (stepR meetsN st (minusZ b a) (minusZ a b))).map stepX).length + 1) * 24 ≤ 140737488355328)) (by first | omega | (simp; omega) | (simp; done) | (intros; simp_all; omega) | (intros; simp_all; done)) <| c0) ?_
            refine SW_exit ?_
            refine SW_reg ?_
            refine SO_HA 0 [] [3, 9, 10, 11, 12, 46, 47, 48] [] hk0 v0 (cc 0 (p := (-9223372036854775808 ≤ (i : Int) + 1 ∧ (i : Int) + 1 ≤ 9223372036854775807)) (by first | omega | (simp; omega) | (simp; done) | (intros; simp_all; omega) | (intros; simp_all; done)) <| c0) ?_
            refine ⟨by kernel_rfl, _, ?_, i + 1, ?_, (Eq.trans (b := (⟨[(3, (.fp (.agg [(.fp (poolX st))]))), (9, (nums (minusZ b a))), (10, (nums (minusZ a b))), (11, (.fp (.agg [(.fp (indexX st))]))), (12, (.own 2)), (46, (nums (unionZ (minusZ b a) (minusZ a b)))), (47, (.int .i64 (((unionZ (minusZ b a) (minusZ a b)).length : Int)))), (48, (.int .i64 ((i : Int) + 1)))], [(2, (.grow (((((unionZ (minusZ b a) (minusZ a b)).take i).map (stepR meetsN st (minusZ b a) (minusZ a b))).map stepX) ++ ([(.agg [(.int .i64 (1)), (.int .i64 (nth (unionZ (minusZ b a) (minusZ a b)) i)), (.int .i64 ((findI (sameN st (nth (unionZ (minusZ b a) (minusZ a b)) i)) (minusZ a b))))])] : List AV)) 64 3))], 3⟩ : St)) (by kernel_rfl) (by rw [step_next (x := (1, (nth (unionZ (minusZ b a) (minusZ a b)) i), (findI (sameN st (nth (unionZ (minusZ b a) (minusZ a b)) i)) (minusZ a b)))) (f := (stepR meetsN st (minusZ b a) (minusZ a b))) (by omega) (by unfold stepR comeS; rw [if_pos c4, if_neg c5])] <;> kernel_rfl)), rfl⟩
            · omega
            · omega
        · skip
          refine SW_skip ?_
          refine SW_P [] [3, 9, 10, 11, 12, 14, 18, 19, 46, 47, 48] ?_
          refine SW_seq ?_
          refine SW_H [] [3, 9, 10, 11, 12, 14, 19, 46, 47, 48] [] (hk 2 (al := [(nums (minusZ b a)), (.int .i64 (-1)), (.fn 77 [] [(.fp (.agg [(.fp (poolX st))])), (.fp (pkgX ((nth st.all ((nth (unionZ (minusZ b a) (minusZ a b)) i).toNat)).1)))])]) en_79 ((find_ok (minusZ b a) (.fn 77 [] [(.fp (.agg [(.fp (poolX st))])), (.fp (pkgX ((nth st.all ((nth (unionZ (minusZ b a) (minusZ a b)) i).toNat)).1)))]) (sameN st (nth (unionZ (minusZ b a) (minusZ a b)) i)) (by omega) (fun j hj => namedD_fun st hi (nth (unionZ (minusZ b a) (minusZ a b)) i) _ (hcr j hj))).of_args (ImpL.cons Imp.refl (ImpL.cons Imp.refl (ImpL.cons (Imp.clo (by kernel_rfl)) ImpL.nil)))) <| hk0) v0 c0 ?_
          refine SW_P [] [3, 9, 10, 11, 12, 14, 19, 46, 47, 48, 108] ?_
          refine SW_if (p := (findI (sameN st (nth (unionZ (minusZ b a) (minusZ a b)) i)) (minusZ b a)) < 0) (by kernel_rfl) (fun c6 => ?_) (fun c6 => ?_)
          · skip
            refine SW_P [] [3, 9, 10, 11, 12, 14, 19, 46, 47, 48] ?_
            refine SW_reg ?_
            refine SO_HA 0 [] [3, 9, 10, 11, 12, 19, 46, 47, 48] [] (hk 2 (al := [(nums (minusZ b a)), (.int .i64 (-1)), (.fn 82 [] [(.fp (.agg [(.fp (poolX st))])), (.fp (.agg [(.fp (indexX st))])), (.fp (.agg [(.int .i64 (nth (unionZ (minusZ b a) (minusZ a b)) i))]))])]) en_79 ((find_ok (minusZ b a) (.fn 82 [] [(.fp (.agg [(.fp (poolX st))])), (.fp (.agg [(.fp (indexX st))])), (.fp (.agg [(.int .i64 (nth (unionZ (minusZ b a) (minusZ a b)) i))]))]) (obsBy meetsN st (nth (unionZ (minusZ b a) (minusZ a b)) i)) (by omega) (fun j hj => obsByD_fun st hi (nth (unionZ (minusZ b a) (minusZ a b)) i) _ (hcr j hj))).of_args (ImpL.cons Imp.refl (ImpL.cons Imp.refl (ImpL.cons (Imp.clo (by kernel_rfl)) ImpL.nil)))) <| hk0) v0 c0 ?_
            refine SW_seq ?_
            refine SW_P [] [3, 9, 10, 11, 12, 19, 46, 47, 48, 116] ?_
            refine SW_if (p := (findI (obsBy meetsN st (nth (unionZ (minusZ b a) (minusZ a b)) i)) (minusZ b a)) < 0) (by kernel_rfl) (fun c7 => ?_) (fun c7 => ?_)
            · skip
              refine SW_reg ?_
              refine SO_P [] [3, 9, 10, 11, 12, 19, 46, 47, 48] ?_
              refine SW_reg ?_
              refine SO_HA 0 [] [3, 9, 10, 11, 12, 46, 47, 48] [] hk0 v0 (cc 3 (p := ((((((unionZ (minusZ b a) (minusZ a b)).take i).map (stepR meetsN st (minusZ b a) (minusZ a b))).map stepX).length + 1) * 24 ≤ 140737488355328)) (by first | omega | (simp; omega) | (simp; done) | (intros; simp_all; omega) | (intros; simp_all; done)) <| c0) ?_
              refine SW_reg ?_
              refine SO_HA 0 [] [3, 9, 10, 11, 12, 46, 47, 48] [] hk0 v0 (cc 0 (p := (-9223372036854775808 ≤ (i : Int) + 1 ∧ (i : Int) + 1 ≤ 9223372036854775807)) (by first | omega | (simp; omega) | (simp; done) | (intros; simp_all; omega) | (intros; simp_all; done)) <| c0) ?_
              refine ⟨by kernel_rfl, _, ?_, i + 1, ?_, (Eq.trans (b := (⟨[(3, (.fp (.agg [(.fp (poolX st))]))), (9, (nums (minusZ b a))), (10, (nums (minusZ a b))), (11, (.fp (.agg [(.fp (indexX st))]))), (12, (.own 2)), (46, (nums (unionZ (minusZ b a) (minusZ a b)))), (47, (.int .i64 (((unionZ (minusZ b a) (minusZ a b)).length : Int)))), (48, (.int .i64 ((i : Int) + 1)))], [(2, (.grow (((((unionZ (minusZ b a) (minusZ a b)).take i).map (stepR meetsN st (minusZ b a) (minusZ a b))).map stepX) ++ ([(.agg [(.int .i64 (2)), (.int .i64 (nth (unionZ (minusZ b a) (minusZ a b)) i)), (.int .i64 ((findI (obsBy meetsN st (nth (unionZ (minusZ b a) (minusZ a b)) i)) (minusZ b a))))])] : List AV)) 64 3))], 3⟩ : St)) (by kernel_rfl) (by rw [step_next (x := (2, (nth (unionZ (minusZ b a) (minusZ a b)) i), (findI (obsBy meetsN st (nth (unionZ (minusZ b a) (minusZ a b)) i)) (minusZ b a)))) (f := (stepR meetsN st (minusZ b a) (minusZ a b))) (by omega) (by unfold stepR goS; rw [if_neg c4, if_neg (by omega), if_neg (by omega)])] <;> kernel_rfl)), rfl⟩
              · omega
              · omega
            · skip
              refine SW_skip ?_
              refine SW_reg ?_
              refine SO_HA 0 [] [3, 9, 10, 11, 12, 46, 47, 48] [] hk0 v0 (cc 3 (p := ((((((unionZ (minusZ b a) (minusZ a b)).take i).map (stepR meetsN st (minusZ b a) (minusZ a b))).map stepX).length + 1) * 24 ≤ 140737488355328)) (by first | omega | (simp; omega) | (simp; done) | (intros; simp_all; omega) | (intros; simp_all; done)) <| c0) ?_
              refine SW_reg ?_
              refine SO_HA 0 [] [3, 9, 10, 11, 12, 46, 47, 48] [] hk0 v0 (cc 0 (p := (-9223372036854775808 ≤ (i : Int) + 1 ∧ (i : Int) + 1 ≤ 9223372036854775807)) (by first | omega | (simp; omega) | (simp; done) | (intros; simp_all; omega) | (intros; simp_all; done)) <| c0) ?_
              refine ⟨by kernel_rfl, _, ?_, i + 1, ?_, (Eq.trans (b := (⟨[(3, (.fp (.agg [(.fp (poolX st))]))), (9, (nums (minusZ b a))), (10, (nums (minusZ a b))), (11, (.fp (.agg [(.fp (indexX st))]))), (12, (.own 2)), (46, (nums (unionZ (minusZ b a) (minusZ a b)))), (47, (.int .i64 (((unionZ (minusZ b a) (minusZ a b)).length : Int)))), (48, (.int .i64 ((i : Int) + 1)))], [(2, (.grow (((((unionZ (minusZ b a) (minusZ a b)).take i).map (stepR meetsN st (minusZ b a) (minusZ a b))).map stepX) ++ ([(.agg [(.int .i64 (7)), (.int .i64 (nth (unionZ (minusZ b a) (minusZ a b)) i)), (.int .i64 ((findI (obsBy meetsN st (nth (unionZ (minusZ b a) (minusZ a b)) i)) (minusZ b a))))])] : List AV)) 64 3))], 3⟩ : St)) (by kernel_rfl) (by rw [step_next (x := (7, (nth (unionZ (minusZ b a) (minusZ a b)) i), (findI (obsBy meetsN st (nth (unionZ (minusZ b a) (minusZ a b)) i)) (minusZ b a)))) (f := (stepR meetsN st (minusZ b a) (minusZ a b))) (by omega) (by unfold stepR goS; rw [if_neg c4, if_neg (by omega), if_pos (by omega)])] <;> kernel_rfl)), rfl⟩
              · omega
              · omega
          · skip
            refine SW_skip ?_
            refine SW_seq ?_
            refine SW_P [] [3, 9, 10, 11, 12, 19, 46, 47, 48, 116] ?_
            refine SW_if (p := (findI (sameN st (nth (unionZ (minusZ b a) (minusZ a b)) i)) (minusZ b a)) < 0) (by kernel_rfl) (fun c8 => ?_) (fun c8 => ?_)
            · skip
              exfalso; omega
            · skip
              refine SW_skip ?_
              refine SW_reg ?_
              refine SO_HA 0 [] [3, 9, 10, 11, 12, 46, 47, 48] [] hk0 v0 (cc 3 (p := ((((((unionZ (minusZ b a) (minusZ a b)).take i).map (stepR meetsN st (minusZ b a) (minusZ a b))).map stepX).length + 1) * 24 ≤ 140737488355328)) (by first | omega | (simp; omega) | (simp; done) | (intros; simp_all; omega) | (intros; simp_all; done)) <| c0) ?_
              refine SW_reg ?_
              refine SO_HA 0 [] [3, 9, 10, 11, 12, 46, 47, 48] [] hk0 v0 (cc 0 (p := (-9223372036854775808 ≤ (i : Int) + 1 ∧ (i : Int) + 1 ≤ 9223372036854775807)) (by first | omega | (simp; omega) | (simp; done) | (intros; simp_all; omega) | (intros; simp_all; done)) <| c0) ?_
              refine ⟨by kernel_rfl, _, ?_, i + 1, ?_, (Eq.trans (b := (⟨[(3, (.fp (.agg [(.fp (poolX st))]))), (9, (nums (minusZ b a))), (10, (nums (minusZ a b))), (11, (.fp (.agg [(.fp (indexX st))]))), (12, (.own 2)), (46, (nums (unionZ (minusZ b a) (minusZ a b)))), (47, (.int .i64 (((unionZ (minusZ b a) (minusZ a b)).length : Int)))), (48, (.int .i64 ((i : Int) + 1)))], [(2, (.grow (((((unionZ (minusZ b a) (minusZ a b)).take i).map (stepR meetsN st (minusZ b a) (minusZ a b))).map stepX) ++ ([(.agg [(.int .i64 (6)), (.int .i64 (nth (unionZ (minusZ b a) (minusZ a b)) i)), (.int .i64 ((findI (sameN st (nth (unionZ (minusZ b a) (minusZ a b)) i)) (minusZ b a))))])] : List AV)) 64 3))], 3⟩ : St)) (by kernel_rfl) (by rw [step_next (x := (6, (nth (unionZ (minusZ b a) (minusZ a b)) i), (findI (sameN st (nth (unionZ (minusZ b a) (minusZ a b)) i)) (minusZ b a)))) (f := (stepR meetsN st (minusZ b a) (minusZ a b))) (by omega) (by unfold stepR goS; rw [if_neg c4, if_pos (by omega)])] <;> kernel_rfl)), rfl⟩
              · omega
              · omega
      · skip
        refine SW_exit ?_
        refine SW_P [] [6, 7] ?_
        refine SW_ret ?_
        refine RK wR [(.row 3 ((((unionZ (minusZ b a) (minusZ a b)).take i).map (stepR meetsN st (minusZ b a) (minusZ a b))).map stepX).length (fun ix => ((((unionZ (minusZ b a) (minusZ a b)).take i).map (stepR meetsN st (minusZ b a) (minusZ a b))).map stepX).getD ix junk)), (.int .i64 (0))] ?_
        rw [show i = (unionZ (minusZ b a) (minusZ a b)).length from by omega, List.take_length]
        simp only [pack]
        rw [show stepsR meetsN st a b = ((unionZ (minusZ b a) (minusZ a b)).map (stepR meetsN st (minusZ b a) (minusZ a b)), 0) from by rw [steps_known hra hrb]; rfl]
        exact (Imp.tups (ImpL.cons (Imp.list (f := stepX) (List.length_map _)) (ImpL.cons Imp.refl ImpL.nil))).same
set_option maxHeartbeats 1000000 in
set_option maxRecDepth 100000 in
theorem Apply_ok (a : List Int) (l : List StepT) (ha : a.length ≤ 1048576) (hl : l.length ≤ 2097152) :
    FnV Tryz.prog 27 [(nums a), (rowOf 3 stepX l)] (nums (applyR a l)) := by
  refine FnV_intro [.tmp 4] Tryz.func27 rfl Tryz.ntmps27 rfl rfl (fun B F hF => ?_)
  refine SW_P [] [0, 1] ?_
  refine SW_H [] [1, 5] [] (hk 1 en_72 (idsSort_ok a (by omega)) <| hk0) v0 c0 ?_
  refine SW_seq ?_
  refine SW_P [] [5, 10, 11, 12] ?_
  refine SW_block ?_
  refine SW_L (fun g y => ∃ (i : Nat), i ≤ l.length ∧ y = ⟨[(5, (nums (applyR a (l.take i)))), (10, (rowOf 3 stepX l)), (11, (.int .i64 ((l.length : Int)))), (12, (.int .i64 ((i : Int))))], [], 0⟩ ∧ g = l.length - i) [5, 10, 11, 12] 0 _ (by omega) ⟨0, (by omega), (by kernel_rfl), rfl⟩ ?_
  rintro g1 y1 ⟨i, f1_1, rfl, rfl⟩
  have hal := applyR_len a (l.take i)
  have htl := List.length_take_le i l
  refine SW_P [] [5, 10, 11, 12, 13] ?_
  refine SW_seq ?_
  refine SW_if (p := (i : Int) < (l.length : Int)) (by kernel_rfl) (fun c1 => ?_) (fun c1 => ?_)
  · skip
    refine SW_skip ?_
    refine SW_seq ?_
    refine SW_block ?_
    refine SW_H [] [5, 7, 10, 11, 12] [] hk0 v0 (cc 0 (p := (0 ≤ (i : Int) ∧ i < l.length)) (by first | omega | (simp; omega) | (simp; done) | (intros; simp_all; omega) | (intros; simp_all; done)) <| c0) ?_
    refine SW_H [] [5, 7, 10, 11, 12, 17] [(0, 7)] hk0 v0 c0 ?_
    refine SW_block ?_
    refine SW_C (fun y => ∃ (v : Bool), v = comesB (nth l i).1 ∧ y = ⟨[(5, (nums (applyR a (l.take i)))), (7, (.fp (.agg [(.int .i64 ((nth l i).1)), (.int .i64 ((nth l i).2.1)), (.int .i64 ((nth l i).2.2))]))), (10, (rowOf 3 stepX l)), (11, (.int .i64 ((l.length : Int)))), (12, (.int .i64 ((i : Int)))), (17, (.int .i64 ((nth l i).1))), (18, (.bool (v)))], [], 1⟩) [5, 7, 10, 11, 12, 17, 18] 1 (by omega) ?_ ?_
    · skip
      refine SW_P [] [5, 7, 10, 11, 12, 17, 18] ?_
      refine SW_if (p := ((nth l i).1) = 1) (by kernel_rfl) (fun c2 => ?_) (fun c2 => ?_)
      · skip
        refine SW_skip ?_
        refine ⟨by kernel_rfl, (decide (((nth l i).1) = 1)), ?_, (by kernel_rfl)⟩
        unfold comesB
        simp_all
      · skip
        refine SW_P [] [5, 7, 10, 11, 12, 17, 18] ?_
        refine SW_if (p := ((nth l i).1) = 3) (by kernel_rfl) (fun c3 => ?_) (fun c3 => ?_)
        · skip
          refine SW_skip ?_
          refine ⟨by kernel_rfl, (decide (((nth l i).1) = 3)), ?_, (by kernel_rfl)⟩
          unfold comesB
          simp_all
        · skip
          refine SW_P [] [5, 7, 10, 11, 12, 17, 18] ?_
          refine SW_if (p := ((nth l i).1) = 4) (by kernel_rfl) (fun c4 => ?_) (fun c4 => ?_)
          · skip
            refine SW_skip ?_
            refine ⟨by kernel_rfl, (decide (((nth l i).1) = 4)), ?_, (by kernel_rfl)⟩
            unfold comesB
            simp_all
          · skip
            refine SW_reg ?_
            refine SO_P [] [5, 7, 10, 11, 12, 17, 18] ?_
            refine ⟨by kernel_rfl, (decide (((nth l i).1) = 5)), ?_, (by kernel_rfl)⟩
            unfold comesB
            simp_all
    · rintro y1 ⟨v, jv, rfl⟩
      refine SW_cond (q := v) (by kernel_rfl) (fun c5 => ?_) (fun c5 => ?_)
      · try simp only [Bool.and_eq_true, Bool.or_eq_true, Bool.and_eq_false_iff, Bool.or_eq_false_iff, Bool.not_eq_true', Bool.not_eq_false', decide_eq_true_eq, decide_eq_false_iff_not] at c5
        refine SW_reg ?_
        refine SO_HA 0 [] [5, 10, 11, 12] [(4, 26)] (hk 4 en_73 (idsUnion_ok (applyR a (l.take i)) [(nth l i).2.1] (by omega) (by first | omega | simp)) <| hk0) (vk 4 26 (b := (nums [(nth l i).2.1])) (Imp.list (f := AV.int .i64) rfl) <| v0) c0 ?_
        refine SW_reg ?_
        refine SO_HA 0 [] [5, 10, 11, 12] [] hk0 v0 (cc 0 (p := (-9223372036854775808 ≤ (i : Int) + 1 ∧ (i : Int) + 1 ≤ 9223372036854775807)) (by first | omega | (simp; omega) | (simp; done) | (intros; simp_all; omega) | (intros; simp_all; done)) <| c0) ?_
        refine ⟨by kernel_rfl, _, ?_, i + 1, ?_, (Eq.trans (b := (⟨[(5, (nums (unionZ (applyR a (l.take i)) [(nth l i).2.1]))), (10, (rowOf 3 stepX l)), (11, (.int .i64 ((l.length : Int)))), (12, (.int .i64 ((i : Int) + 1)))], [], 0⟩ : St)) (by kernel_rfl) (by rw [apply_next (by omega), applyF, if_pos (by rw [← jv]; exact c5)] <;> kernel_rfl)), rfl⟩
        · omega
        · omega
      · try simp only [Bool.and_eq_true, Bool.or_eq_true, Bool.and_eq_false_iff, Bool.or_eq_false_iff, Bool.not_eq_true', Bool.not_eq_false', decide_eq_true_eq, decide_eq_false_iff_not] at c5
        refine SW_C (fun y => ∃ (u : Bool), u = goesB (nth l i).1 ∧ y = ⟨[(5, (nums (applyR a (l.take i)))), (7, (.fp (.agg [(.int .i64 ((nth l i).1)), (.int .i64 ((nth l i).2.1)), (.int .i64 ((nth l i).2.2))]))), (10, (rowOf 3 stepX l)), (11, (.int .i64 ((l.length : Int)))), (12, (.int .i64 ((i : Int)))), (28, (.bool (u)))], [], 1⟩) [5, 7, 10, 11, 12, 28] 1 (by omega) ?_ ?_
        · skip
          refine SW_P [] [5, 7, 10, 11, 12, 17, 28] ?_
          refine SW_if (p := ((nth l i).1) = 2) (by kernel_rfl) (fun c6 => ?_) (fun c6 => ?_)
          · skip
            refine SW_skip ?_
            refine ⟨by kernel_rfl, (decide (((nth l i).1) = 2)), ?_, (by kernel_rfl)⟩
            unfold goesB
            simp_all
          · skip
            refine SW_P [] [5, 7, 10, 11, 12, 17, 28] ?_
            refine SW_if (p := ((nth l i).1) = 6) (by kernel_rfl) (fun c7 => ?_) (fun c7 => ?_)
            · skip
              refine SW_skip ?_
              refine ⟨by kernel_rfl, (decide (((nth l i).1) = 6)), ?_, (by kernel_rfl)⟩
              unfold goesB
              simp_all
            · skip
              refine SW_reg ?_
              refine SO_P [] [5, 7, 10, 11, 12, 28] ?_
              refine ⟨by kernel_rfl, (decide (((nth l i).1) = 7)), ?_, (by kernel_rfl)⟩
              unfold goesB
              simp_all
        · rintro y2 ⟨u, ju, rfl⟩
          refine SW_cond (q := u) (by kernel_rfl) (fun c8 => ?_) (fun c8 => ?_)
          · try simp only [Bool.and_eq_true, Bool.or_eq_true, Bool.and_eq_false_iff, Bool.or_eq_false_iff, Bool.not_eq_true', Bool.not_eq_false', decide_eq_true_eq, decide_eq_false_iff_not] at c8
            refine SW_reg ?_
            refine SO_HA 0 [] [5, 10, 11, 12] [(4, 35)] (hk 4 en_24 (idsMinus_ok (applyR a (l.take i)) [(nth l i).2.1] (by omega) (by first | omega | simp)) <| hk0) (vk 4 35 (b := (nums [(nth l i).2.1])) (Imp.list (f := AV.int .i64) rfl) <| v0) c0 ?_
            refine SW_reg ?_
            refine SO_HA 0 [] [5, 10, 11, 12] [] hk0 v0 (cc 0 (p := (-9223372036854775808 ≤ (i : Int) + 1 ∧ (i : Int) + 1 ≤ 9223372036854775807)) (by first | omega | (simp; omega) | (simp; done) | (intros; simp_all; omega) | (intros; simp_all; done)) <| c0) ?_
            refine ⟨by kernel_rfl, _, ?_, i + 1, ?_, (Eq.trans (b := (⟨[(5, (nums (minusZ (applyR a (l.take i)) [(nth l i).2.1]))), (10, (rowOf 3 stepX l)), (11, (.int .i64 ((l.length : Int)))), (12, (.int .i64 ((i : Int) + 1)))], [], 0⟩ : St)) (by kernel_rfl) (by rw [apply_next (by omega), applyF, if_neg (by rw [← jv, c5]; simp), if_pos (by rw [← ju]; exact c8)] <;> kernel_rfl)), rfl⟩
            · omega
            · omega
          · try simp only [Bool.and_eq_true, Bool.or_eq_true, Bool.and_eq_false_iff, Bool.or_eq_false_iff, Bool.not_eq_true', Bool.not_eq_false', decide_eq_true_eq, decide_eq_false_iff_not] at c8
            refine SW_skip ?_
            refine SW_reg ?_
            refine SO_HA 0 [] [5, 10, 11, 12] [] hk0 v0 (cc 0 (p := (-9223372036854775808 ≤ (i : Int) + 1 ∧ (i : Int) + 1 ≤ 9223372036854775807)) (by first | omega | (simp; omega) | (simp; done) | (intros; simp_all; omega) | (intros; simp_all; done)) <| c0) ?_
            refine ⟨by kernel_rfl, _, ?_, i + 1, ?_, (Eq.trans (b := (⟨[(5, (nums (applyR a (l.take i)))), (10, (rowOf 3 stepX l)), (11, (.int .i64 ((l.length : Int)))), (12, (.int .i64 ((i : Int) + 1)))], [], 0⟩ : St)) (by kernel_rfl) (by rw [apply_next (by omega), applyF, if_neg (by rw [← jv, c5]; simp), if_neg (by rw [← ju, c8]; simp)] <;> kernel_rfl)), rfl⟩
            · omega
            · omega
  · skip
    refine SW_exit ?_
    refine SW_P [] [4] ?_
    refine SW_ret ?_
    refine RK wR [(nums (applyR a (l.take i)))] ?_
    exact Same.of_eq (by simp only [pack]; rw [show i = l.length from by omega, List.take_length])
end Sv
end Go.Proofs.YtlfjokcbkopfeaaGreatDoor
end
section
namespace Go.Proofs.YtlfjokcbkopfeaaGreatDoor
open Go Go.RowKit
namespace Sv
attribute [local irreducible] SW SO holds
theorem en_30 : Enters Tryz.prog 30 := enters_of Tryz.func30 (by kernel_rfl) rfl
theorem en_26 : Enters Tryz.prog 26 := enters_of Tryz.func26 (by kernel_rfl) rfl
theorem step_eq {x y : StepT} (h1 : x.1 = y.1) (h2 : x.2.1 = y.2.1) (h3 : x.2.2 = y.2.2) : x = y := Prod.ext h1 (Prod.ext h2 h3)
theorem nth_steps {a : List StepT} {i : Nat} (h : i < a.length) : nth a i = a[i] := by simp [nth, h]
theorem sameS_yes {a b : List StepT} (hl : a.length = b.length) (h : ∀ j, j < a.length → nth a j = nth b j) : decide (a = b) = true := decide_eq_true (List.ext_getElem hl fun j h1 h2 => by
  have := h j h1
  rwa [nth_steps h1, nth_steps h2] at this)
theorem sameS_no {a b : List StepT} {i : Nat} (h : ¬ nth a i = nth b i) : decide (a = b) = false := decide_eq_false fun e => h (by rw [e])
theorem sameS_len {a b : List StepT} (h : ¬ a.length = b.length) : decide (a = b) = false := decide_eq_false fun e => h (by rw [e])
def twA : PkgT := ⟨[97], [49, 45, 49], [110, 111, 97, 114, 99, 104], [], [], [], [], [], [], [], [], []⟩
def twB : PkgT := ⟨[97], [50, 45, 49], [110, 111, 97, 114, 99, 104], [], [], [], [], [], [], [], [], []⟩
def twR : RepoT := ⟨[109, 97, 105, 110], 0, false, [twA, twB]⟩
def twX : StepT := (4, 0, 1)
def twY : StepT := (6, 1, 0)
def twT : List StepT := [twX, twY]
def twS : PoolT := (bothTo (kindN 1) [twR]).1
def twP : List (Int × Int) := (bothTo (kindN 1) [twR]).2
theorem twS_ok : IdxOk twS := bothTo_idx fun i hi => by
  have : i = 0 := by simpa using hi
  subst this
  decide
theorem twPools : FnV Tryz.prog 9 [.int .i64 1, rowOf 4 repoX [twR]] (.tup [.fp (poolX twS), .fp (poolR twS twP)]) := Pools_ok 1 [twR] (by decide) fun i hi => by
  have : i = 0 := by simpa using hi
  subst this
  decide
theorem tw_len : twS.all.length = 2 := by kernel_rfl
theorem tw_list : stepsL (stepR meetsN twS) [1] [0] = twT := by
  have h1 : minusZ [0] [1] = [0] := (setZ_of (l := [0].filter fun z => !decide (z ∈ [1])) (k := [0]) ⟨by simp, trivial⟩ (by simp)).symm
  have h2 : minusZ [1] [0] = [1] := (setZ_of (l := [1].filter fun z => !decide (z ∈ [0])) (k := [1]) ⟨by simp, trivial⟩ (by simp)).symm
  have h3 : unionZ [0] [1] = [0, 1] := setZ_self (l := [0, 1]) ⟨by simp, by simp, trivial⟩
  unfold stepsL
  rw [h1, h2, h3]
  have k1 : stepR meetsN twS [0] [1] 0 = twX := by kernel_rfl
  have k2 : stepR meetsN twS [0] [1] 1 = twY := by kernel_rfl
  rw [List.map_cons, List.map_cons, List.map_nil, k1, k2]; rfl
theorem tw_steps : stepsR meetsN twS [1] [0] = (twT, 0) := by
  rw [steps_known (by rw [tw_len]; simp) (by rw [tw_len]; simp), tw_list]
theorem tw_apply : applyR [1] twT = [0] := by
  rw [← tw_list]; exact steps_lead (b := [0]) (step_ok _ _) (show RiseI [0] from ⟨by simp, trivial⟩) (List.Perm.refl _)
set_option maxHeartbeats 400000 in
set_option maxRecDepth 100000 in
theorem rSame20_ok (a b : List StepT) (ha : a.length ≤ 4611686018427) :
    FnV Tryz.prog 30 [(rowOf 3 stepX a), (rowOf 3 stepX b)] (.bool (decide (a = b))) := by
  refine FnV_intro [.tmp 4] Tryz.func30 rfl Tryz.ntmps30 rfl rfl (fun B F hF => ?_)
  refine SW_P [] [0, 1] ?_
  refine SW_seq ?_
  refine SW_P [] [0, 1, 10] ?_
  refine SW_ifn (p := (a.length : Int) = (b.length : Int)) (by kernel_rfl) (fun c1 => ?_) (fun c1 => ?_)
  · skip
    refine SW_P [] [4] ?_
    refine SW_ret ?_
    refine RK wR [(.bool (false))] ?_
    exact Same.of_eq (by rw [sameS_len (by omega)]; rfl)
  · skip
    refine SW_skip ?_
    refine SW_seq ?_
    refine SW_P [] [0, 1, 5] ?_
    refine SW_block ?_
    refine SW_L (fun g y => ∃ (i : Nat), i ≤ a.length ∧ (∀ j, j < i → nth a j = nth b j) ∧ y = ⟨[(0, (rowOf 3 stepX a)), (1, (rowOf 3 stepX b)), (5, (.int .i64 ((i : Int))))], [], 0⟩ ∧ g = a.length - i) [0, 1, 5] 0 _ (by omega) ⟨0, (by omega), (by exact fun j hj => by omega), (by kernel_rfl), rfl⟩ ?_
    rintro g1 y1 ⟨i, f1_1, f1_2, rfl, rfl⟩
    refine SW_seq ?_
    refine SW_P [] [0, 1, 5, 14] ?_
    refine SW_if (p := (i : Int) < (a.length : Int)) (by kernel_rfl) (fun c2 => ?_) (fun c2 => ?_)
    · skip
      refine SW_skip ?_
      refine SW_seq ?_
      refine SW_block ?_
      refine SW_seq ?_
      refine SW_draw (by kernel_rfl) (fun F1 hF1 => ?_)
      refine SG_F (fuel := 1) [] [0, 1, 2, 3, 4, 5, 6, 7] [0, 1, 5, 20, 24] (hold (p := (0 ≤ (i : Int) ∧ i < a.length) ∧ (0 ≤ (i : Int) ∧ i < b.length)) (by first | omega | (simp; omega) | (simp; done) | (intros; simp_all; omega) | (intros; simp_all; done))) ?_
      refine SG_one (fuel := 0) 8 (by kernel_rfl) ?_
      refine SN_by (fuel := 0) 8 rfl ?_
      refine SO_by (s' := [(0, (rowOf 3 stepX a)), (1, (rowOf 3 stepX b)), (5, (.int .i64 ((i : Int)))), (20, (.agg [(.int .i64 ((nth a i).1)), (.int .i64 ((nth a i).2.1)), (.int .i64 ((nth a i).2.2))])), (24, (.agg [(.int .i64 ((nth b i).1)), (.int .i64 ((nth b i).2.1)), (.int .i64 ((nth b i).2.2))])), (25, (.bool (!(decide ((nth a i).1 = ((nth b i).1)) && (decide ((nth a i).2.1 = ((nth b i).2.1)) && (decide ((nth a i).2.2 = ((nth b i).2.2)) && true))))))]) (.bool (!(decide ((nth a i).1 = ((nth b i).1)) && (decide ((nth a i).2.1 = ((nth b i).2.1)) && (decide ((nth a i).2.2 = ((nth b i).2.2)) && true))))) (by kernel_rfl) (sneq_by (l := [(.int .i64 ((nth a i).1)), (.int .i64 ((nth a i).2.1)), (.int .i64 ((nth a i).2.2))]) (m := [(.int .i64 ((nth b i).1)), (.int .i64 ((nth b i).2.1)), (.int .i64 ((nth b i).2.2))]) (r := decide ((nth a i).1 = ((nth b i).1)) && (decide ((nth a i).2.1 = ((nth b i).2.1)) && (decide ((nth a i).2.2 = ((nth b i).2.2)) && true))) (.inl (by kernel_rfl)) (.inl (by kernel_rfl)) (by kernel_rfl) (by kernel_rfl) (by kernel_rfl) (by kernel_rfl)) (by kernel_rfl) ?_
      refine SO_nil ⟨rfl, ?_⟩
      refine SG_S [0, 1, 5, 25] ?_
      refine SG_done (by kernel_rfl) ?_
      refine SW_cond (q := !(decide ((nth a i).1 = ((nth b i).1)) && (decide ((nth a i).2.1 = ((nth b i).2.1)) && (decide ((nth a i).2.2 = ((nth b i).2.2)) && true)))) (by kernel_rfl) (fun c3 => ?_) (fun c3 => ?_)
      · try simp only [Bool.and_eq_true, Bool.or_eq_true, Bool.and_eq_false_iff, Bool.or_eq_false_iff, Bool.not_eq_true', Bool.not_eq_false', decide_eq_true_eq, decide_eq_false_iff_not] at c3
        refine SW_P [] [4] ?_
        refine SW_ret ?_
        refine RK wR [(.bool (false))] ?_
        exact Same.of_eq (by rw [sameS_no (i := i) (by intro e; rw [e] at c3; simp at c3)]; rfl)
      · try simp only [Bool.and_eq_true, Bool.or_eq_true, Bool.and_eq_false_iff, Bool.or_eq_false_iff, Bool.not_eq_true', Bool.not_eq_false', decide_eq_true_eq, decide_eq_false_iff_not] at c3
        refine SW_skip ?_
        refine SW_reg ?_
        refine SO_HA 0 [] [0, 1, 5] [] hk0 v0 (cc 1 (p := (-9223372036854775808 ≤ (i : Int) + 1 ∧ (i : Int) + 1 ≤ 9223372036854775807)) (by first | omega | (simp; omega) | (simp; done) | (intros; simp_all; omega) | (intros; simp_all; done)) <| c0) ?_
        refine ⟨by kernel_rfl, _, ?_, i + 1, ?_, ?_, (by kernel_rfl), rfl⟩
        · omega
        · omega
        · intro j hj
          by_cases h : j = i
          · subst h; exact step_eq (by simp_all) (by simp_all) (by simp_all)
          · exact f1_2 j (by omega)
    · skip
      refine SW_exit ?_
      refine SW_P [] [4] ?_
      refine SW_ret ?_
      refine RK wR [(.bool (true))] ?_
      exact Same.of_eq (by rw [sameS_yes (by omega) (fun j hj => f1_2 j (by omega))]; rfl)
set_option maxHeartbeats 400000 in
set_option maxRecDepth 100000 in
theorem awake20_ok  :
    FnV Tryz.prog 26 [] (.bool (true)) := by
  refine FnV_intro [.tmp 0] Tryz.func26 rfl Tryz.ntmps26 rfl rfl (fun B F hF => ?_)
  refine SW_P [] [] ?_
  refine SW_H [] [1] [(3, 10), (5, 12)] (hk 5 en_9 (twPools) <| hk0) (vk 2 8 (a := (.agg [(.str ([97])), (.str ([49, 45, 49])), (.str ([110, 111, 97, 114, 99, 104])), (.str ([])), .nils, .nils, .nils, .nils, .nils, .nils, .nils, .nils])) (b := (pkgX twA)) ((Imp.aggs (ImpL.cons Imp.refl (ImpL.cons Imp.refl (ImpL.cons Imp.refl (ImpL.cons Imp.refl (ImpL.cons Imp.nil (ImpL.cons Imp.nil (ImpL.cons Imp.nil (ImpL.cons Imp.nil (ImpL.cons Imp.nil (ImpL.cons Imp.nil (ImpL.cons Imp.nil (ImpL.cons Imp.nil ImpL.nil)))))))))))))) <| vk 2 9 (a := (.agg [(.str ([97])), (.str ([50, 45, 49])), (.str ([110, 111, 97, 114, 99, 104])), (.str ([])), .nils, .nils, .nils, .nils, .nils, .nils, .nils, .nils])) (b := (pkgX twB)) ((Imp.aggs (ImpL.cons Imp.refl (ImpL.cons Imp.refl (ImpL.cons Imp.refl (ImpL.cons Imp.refl (ImpL.cons Imp.nil (ImpL.cons Imp.nil (ImpL.cons Imp.nil (ImpL.cons Imp.nil (ImpL.cons Imp.nil (ImpL.cons Imp.nil (ImpL.cons Imp.nil (ImpL.cons Imp.nil ImpL.nil)))))))))))))) <| vk 3 10 (b := (rowOf 12 pkgX [twA, twB])) (Imp.list (f := pkgX) rfl) <| vk 4 11 (a := (.agg [(.str ([109, 97, 105, 110])), (.int .i64 (0)), (.bool (false)), (rowOf 12 pkgX [twA, twB])])) (b := (.agg [(.str (twR.name)), (.int .i64 (twR.prio)), (.bool (twR.inst)), (rowOf 12 pkgX twR.pkgs)])) ((Imp.aggs (ImpL.cons Imp.refl (ImpL.cons Imp.refl (ImpL.cons Imp.refl (ImpL.cons Imp.refl ImpL.nil)))))) <| vk 5 12 (b := (rowOf 4 repoX [twR])) (Imp.list (f := repoX) rfl) <| v0) c0 ?_
  refine SW_seq ?_
  refine SW_P [] [1, 17] ?_
  refine SW_false (by kernel_rfl) ?_
  refine SW_skip ?_
  refine SW_H [] [3, 4] [(3, 20), (3, 21)] (hk 3 en_29 ((Steps_ok twS twS_ok [1] [0] (by decide) (by decide)).to (Same.of_eq (by rw [tw_steps]))) <| hk0) (vk 3 20 (b := (nums [1])) (Imp.list (f := AV.int .i64) rfl) <| vk 3 21 (b := (nums [0])) (Imp.list (f := AV.int .i64) rfl) <| v0) c0 ?_
  refine SW_H [] [3, 4, 5] [(4, 28)] (hk 4 en_30 ((rSame20_ok twT twT (by decide)).to (Same.of_eq (congrArg AV.bool (decide_eq_true rfl)))) <| hk0) (vk 3 26 (a := (.agg [(.int .i64 (4)), (.int .i64 (0)), (.int .i64 (1))])) (b := (.agg [(.int .i64 (twX.1)), (.int .i64 (twX.2.1)), (.int .i64 (twX.2.2))])) ((Imp.aggs (ImpL.cons Imp.refl (ImpL.cons Imp.refl (ImpL.cons Imp.refl ImpL.nil))))) <| vk 3 27 (a := (.agg [(.int .i64 (6)), (.int .i64 (1)), (.int .i64 (0))])) (b := (.agg [(.int .i64 (twY.1)), (.int .i64 (twY.2.1)), (.int .i64 (twY.2.2))])) ((Imp.aggs (ImpL.cons Imp.refl (ImpL.cons Imp.refl (ImpL.cons Imp.refl ImpL.nil))))) <| vk 4 28 (b := (rowOf 3 stepX twT)) (Imp.list (f := stepX) rfl) <| v0) c0 ?_
  refine SW_H [] [4, 5, 6] [(2, 30), (4, 33)] (hk 2 en_27 ((Apply_ok [1] twT (by decide) (by decide)).to (Same.of_eq (by rw [tw_apply]))) <| hk 4 en_17 ((rSame_ok [0] [0] (by decide)).to (Same.of_eq (congrArg AV.bool (decide_eq_true rfl)))) <| hk0) (vk 2 30 (b := (nums [1])) (Imp.list (f := AV.int .i64) rfl) <| vk 4 33 (b := (nums [0])) (Imp.list (f := AV.int .i64) rfl) <| v0) c0 ?_
  refine SW_P [] [0] ?_
  refine SW_ret ?_
  refine RK wR [(.bool (true))] ?_
  exact Same.of_eq (by first | rfl | (simp only [pack]; simp_all))
end Sv
end Go.Proofs.YtlfjokcbkopfeaaGreatDoor
end
section
namespace Go.Proofs.YtlfjokcbkopfeaaGreatDoor
open Go Go.RowKit
namespace Sv
attribute [local irreducible] SW SO holds
theorem en_32 : Enters Tryz.prog 32 := enters_of Tryz.func32 (by kernel_rfl) rfl
theorem en_33 : Enters Tryz.prog 33 := enters_of Tryz.func33 (by kernel_rfl) rfl
theorem owns_imp {es : List AV} {l : List StepT} (h : es = l.map stepX) : Imp (.row 3 es.length (fun ix => es.getD ix junk)) (rowOf 3 stepX l) := by
  subst h; exact Imp.list (f := stepX) (List.length_map _)
theorem set_at {T : List StepT} {y : StepT} {j : Nat} (h : j < T.length) : ((T.map stepX).set 0 (stepX y))[j]? = some (stepX (nth (T.set 0 y) j)) := by
  rw [← List.map_set]; exact get_map (l := T.set 0 y) stepX (by simpa using h)
theorem turn_map {T : List StepT} {j : Nat} : (turnL T j).map stepX = ((T.map stepX).set 0 (stepX (nth T j))).set j (stepX (nth T 0)) := by unfold turnL; rw [List.map_set, List.map_set]
theorem tmod_in {v : Int} {n : Nat} (hv : 0 ≤ v) (hn : 0 < n) : 0 ≤ Int.tmod v (n : Int) ∧ Int.tmod v (n : Int) < n := by
  rw [Int.tmod_eq_emod_of_nonneg hv]
  exact ⟨Int.emod_nonneg _ (by omega), Int.emod_lt_of_pos _ (by omega)⟩
set_option maxHeartbeats 400000 in
set_option maxRecDepth 100000 in
theorem rComes_ok (x : StepT) :
    FnV Tryz.prog 32 [(.agg [(.int .i64 (x.1)), (.int .i64 (x.2.1)), (.int .i64 (x.2.2))])] (.bool (comesB x.1)) := by
  refine FnV_intro [.tmp 2] Tryz.func32 rfl Tryz.ntmps32 rfl rfl (fun B F hF => ?_)
  refine SW_H [] [1] [(1, 1)] hk0 v0 c0 ?_
  obtain ⟨b1, hb1⟩ : ∃ b, b = (decide (x.1 = 1)) := ⟨_, rfl⟩
  obtain ⟨b2, hb2⟩ : ∃ b, b = (b1 || (decide (x.1 = 3))) := ⟨_, rfl⟩
  obtain ⟨b3, hb3⟩ : ∃ b, b = (b2 || (decide (x.1 = 4))) := ⟨_, rfl⟩
  refine SW_H (CS := [(5, ((!b1) = true → (!b1) = true)), (6, ((!b1) = true → (!b1) = true)), (7, (b1 = false → (!b1) = true)), (10, ((!b2) = true → (!b2) = true)), (11, ((!b2) = true → (!b2) = true)), (12, (b2 = false → (!b2) = true)), (15, ((!b3) = true → (!b3) = true)), (16, ((!b3) = true → (!b3) = true)), (17, (b3 = false → (!b3) = true))]) [7, 8, 9, 12, 13, 14, 17, 18, 19] [2] [] hk0 (vk 4 6 (a := .bool (decide (x.1 = 1))) (b := .bool b1) (Imp.of_eq (by rw [hb1])) <| vk 9 11 (a := .bool (b1 || (decide (x.1 = 3)))) (b := .bool b2) (Imp.of_eq (by rw [hb2])) <| vk 14 16 (a := .bool (b2 || (decide (x.1 = 4)))) (b := .bool b3) (Imp.of_eq (by rw [hb3])) <| v0) (by refine cc _ ?_ <| cc _ ?_ <| cc _ ?_ <| cc _ ?_ <| cc _ ?_ <| cc _ ?_ <| cc _ ?_ <| cc _ ?_ <| cc _ ?_ c0 <;> first | omega | (simp; omega) | (simp; done) | (intros; simp_all; omega) | (intros; simp_all; done)) ?_
  refine SW_ret ?_
  refine RK wR [(.bool (b3 || (decide (x.1 = 5))))] ?_
  subst hb3 hb2 hb1
  exact Same.of_eq (by simp only [pack]; unfold comesB; simp only [Bool.or_assoc])
set_option maxHeartbeats 400000 in
set_option maxRecDepth 100000 in
theorem rGoes_ok (x : StepT) :
    FnV Tryz.prog 33 [(.agg [(.int .i64 (x.1)), (.int .i64 (x.2.1)), (.int .i64 (x.2.2))])] (.bool (goesB x.1)) := by
  refine FnV_intro [.tmp 2] Tryz.func33 rfl Tryz.ntmps33 rfl rfl (fun B F hF => ?_)
  refine SW_H [] [1] [(1, 1)] hk0 v0 c0 ?_
  obtain ⟨b1, hb1⟩ : ∃ b, b = (decide (x.1 = 2)) := ⟨_, rfl⟩
  obtain ⟨b2, hb2⟩ : ∃ b, b = (b1 || (decide (x.1 = 6))) := ⟨_, rfl⟩
  refine SW_H (CS := [(5, ((!b1) = true → (!b1) = true)), (6, ((!b1) = true → (!b1) = true)), (7, (b1 = false → (!b1) = true)), (10, ((!b2) = true → (!b2) = true)), (11, ((!b2) = true → (!b2) = true)), (12, (b2 = false → (!b2) = true))]) [7, 8, 9, 12, 13, 14] [2] [] hk0 (vk 4 6 (a := .bool (decide (x.1 = 2))) (b := .bool b1) (Imp.of_eq (by rw [hb1])) <| vk 9 11 (a := .bool (b1 || (decide (x.1 = 6)))) (b := .bool b2) (Imp.of_eq (by rw [hb2])) <| v0) (by refine cc _ ?_ <| cc _ ?_ <| cc _ ?_ <| cc _ ?_ <| cc _ ?_ <| cc _ ?_ c0 <;> first | omega | (simp; omega) | (simp; done) | (intros; simp_all; omega) | (intros; simp_all; done)) ?_
  refine SW_ret ?_
  refine RK wR [(.bool (b2 || (decide (x.1 = 7))))] ?_
  subst hb2 hb1
  exact Same.of_eq (by simp only [pack]; unfold goesB; simp only [Bool.or_assoc])
set_option maxHeartbeats 1000000 in
set_option maxRecDepth 100000 in
theorem diffLeads_ok (l : List RepoT) (hll : l.length ≤ 1048576) (hl : ∀ i, i < l.length → (nth l i).size ≤ 1048576) (rs : List Int) (hrs : rs.length ≤ 1048576) (hbr : ∀ i, i < rs.length → -9223372036854775808 ≤ nth rs i ∧ nth rs i ≤ 9223372036854775807) (ks : List Int) (hks : ks.length ≤ 1048576) (hbk : ∀ i, i < ks.length → -9223372036854775808 ≤ nth ks i ∧ nth ks i ≤ 9223372036854775807) (os : List Int) (hos : os.length ≤ 1048576) (hbo : ∀ i, i < os.length → -9223372036854775808 ≤ nth os i ∧ nth os i ≤ 9223372036854775807) :
    FnV Tryz.prog 6 [(rowOf 4 repoX l), (nums rs), (nums ks), (nums os)] (.bool (true)) := by
  have hl4 : ∀ i, i < l.length → (nth l i).size ≤ 4194304 := fun i hi => Nat.le_trans (hl i hi) (by decide)
  have hi := bothTo_idx (k := kindN 2) hl4
  have hpl : (bothTo (kindN 2) l).2.length = (bothTo (kindN 2) l).1.all.length := (bothTo_at (kindN 2) l).1
  have h200 := hi.1
  have hfl := allP_len (bothTo (kindN 2) l).2.length rs
  have htl := allP_len (bothTo (kindN 2) l).2.length ks
  have hfi : ∀ q ∈ (allP (bothTo (kindN 2) l).2.length rs), 0 ≤ q ∧ q < (bothTo (kindN 2) l).1.all.length := fun q hq => by have h := allP_in hq; rw [hpl] at h; exact h
  have hti : ∀ q ∈ (allP (bothTo (kindN 2) l).2.length ks), 0 ≤ q ∧ q < (bothTo (kindN 2) l).1.all.length := fun q hq => by have h := allP_in hq; rw [hpl] at h; exact h
  have e1 := steps_known (m := meetsN) hfi hti
  have e2 := steps_known (m := meetsN) hti hfi
  have hso := step_ok meetsN (bothTo (kindN 2) l).1
  have h1 := steps_lead (f := (stepR meetsN (bothTo (kindN 2) l).1)) (a := (allP (bothTo (kindN 2) l).2.length rs)) (b := (allP (bothTo (kindN 2) l).2.length ks)) hso (allP_rise _ _) (List.Perm.refl _)
  have h2 := steps_lead (f := (stepR meetsN (bothTo (kindN 2) l).1)) (a := (allP (bothTo (kindN 2) l).2.length ks)) (b := (allP (bothTo (kindN 2) l).2.length rs)) hso (allP_rise _ _) (List.Perm.refl _)
  have h3 : ∀ T, List.Perm T (stepsL (stepR meetsN (bothTo (kindN 2) l).1) (allP (bothTo (kindN 2) l).2.length rs) (allP (bothTo (kindN 2) l).2.length ks)) → applyR (allP (bothTo (kindN 2) l).2.length rs) T = (allP (bothTo (kindN 2) l).2.length ks) := fun T hT => steps_lead hso (allP_rise _ _) hT
  have hal : (stepsL (stepR meetsN (bothTo (kindN 2) l).1) (allP (bothTo (kindN 2) l).2.length rs) (allP (bothTo (kindN 2) l).2.length ks)).length ≤ (allP (bothTo (kindN 2) l).2.length rs).length + (allP (bothTo (kindN 2) l).2.length ks).length := by rw [steps_len]; have k1 := unionZ_len (minusZ (allP (bothTo (kindN 2) l).2.length ks) (allP (bothTo (kindN 2) l).2.length rs)) (minusZ (allP (bothTo (kindN 2) l).2.length rs) (allP (bothTo (kindN 2) l).2.length ks)); have k2 := minusZ_len (allP (bothTo (kindN 2) l).2.length ks) (allP (bothTo (kindN 2) l).2.length rs); have k3 := minusZ_len (allP (bothTo (kindN 2) l).2.length rs) (allP (bothTo (kindN 2) l).2.length ks); omega
  have hbl : (stepsL (stepR meetsN (bothTo (kindN 2) l).1) (allP (bothTo (kindN 2) l).2.length rs) (allP (bothTo (kindN 2) l).2.length ks)).length = (stepsL (stepR meetsN (bothTo (kindN 2) l).1) (allP (bothTo (kindN 2) l).2.length ks) (allP (bothTo (kindN 2) l).2.length rs)).length := steps_back_len
  refine FnV_intro [.tmp 8] Tryz.func6 rfl Tryz.ntmps6 rfl rfl (fun B F hF => ?_)
  refine SW_P [] [0, 1, 2, 3] ?_
  refine SW_H [] [0, 1, 2, 3, 9] [] (hk 0 en_26 (awake20_ok) <| hk0) v0 c0 ?_
  refine SW_H [] [1, 2, 3, 9, 10, 11] [] (hk 1 en_9 (Pools_ok 2 l (by omega) hl4) <| hk0) v0 c0 ?_
  refine SW_seq ?_
  refine SW_P [] [1, 2, 3, 10, 11, 39] ?_
  refine SW_false (by kernel_rfl) ?_
  refine SW_skip ?_
  refine SW_H [] [2, 3, 10, 11, 12] [] (hk 2 en_25 (rAll_ok (bothTo (kindN 2) l).1 (bothTo (kindN 2) l).2 rs (by omega) (by omega) hbr) <| hk0) v0 c0 ?_
  refine SW_H [] [3, 10, 12, 13] [] (hk 2 en_25 (rAll_ok (bothTo (kindN 2) l).1 (bothTo (kindN 2) l).2 ks (by omega) (by omega) hbk) <| hk0) v0 c0 ?_
  refine SW_H [] [3, 10, 12, 13, 14, 15] [] (hk 3 en_29 ((Steps_ok (bothTo (kindN 2) l).1 hi (allP (bothTo (kindN 2) l).2.length rs) (allP (bothTo (kindN 2) l).2.length ks) (by omega) (by omega)).to (Same.of_eq (by rw [e1]))) <| hk0) v0 c0 ?_
  refine SW_H [] [3, 12, 13, 14, 15, 16, 17] [] (hk 3 en_29 ((Steps_ok (bothTo (kindN 2) l).1 hi (allP (bothTo (kindN 2) l).2.length ks) (allP (bothTo (kindN 2) l).2.length rs) (by omega) (by omega)).to (Same.of_eq (by rw [e2]))) <| hk0) v0 c0 ?_
  refine SW_seq ?_
  refine SW_P [] [3, 12, 13, 14, 16, 72] ?_
  refine SW_ifn (p := ((stepsL (stepR meetsN (bothTo (kindN 2) l).1) (allP (bothTo (kindN 2) l).2.length rs) (allP (bothTo (kindN 2) l).2.length ks)).length : Int) = ((stepsL (stepR meetsN (bothTo (kindN 2) l).1) (allP (bothTo (kindN 2) l).2.length ks) (allP (bothTo (kindN 2) l).2.length rs)).length : Int)) (by kernel_rfl) (fun c1 => ?_) (fun c1 => ?_)
  · skip
    exfalso; omega
  · skip
    refine SW_skip ?_
    refine SW_H [] [3, 12, 13, 14, 16, 18] [] hk0 v0 (cc 2 (p := ((([] : List AV).length + ((stepsL (stepR meetsN (bothTo (kindN 2) l).1) (allP (bothTo (kindN 2) l).2.length rs) (allP (bothTo (kindN 2) l).2.length ks)).length)) * 24 ≤ 140737488355328)) (by first | omega | (simp; omega) | (simp; done) | (intros; simp_all; omega) | (intros; simp_all; done)) <| c0) ?_
    refine SW_seq ?_
    refine SW_P [] [3, 12, 13, 14, 16, 18, 19] ?_
    refine SW_block ?_
    refine SW_L (fun g y => ∃ (i : Nat) (T : List StepT), i ≤ os.length ∧ T.Perm (stepsL (stepR meetsN (bothTo (kindN 2) l).1) (allP (bothTo (kindN 2) l).2.length rs) (allP (bothTo (kindN 2) l).2.length ks)) ∧ y = ⟨[(3, (nums os)), (12, (nums (allP (bothTo (kindN 2) l).2.length rs))), (13, (nums (allP (bothTo (kindN 2) l).2.length ks))), (14, (rowOf 3 stepX (stepsL (stepR meetsN (bothTo (kindN 2) l).1) (allP (bothTo (kindN 2) l).2.length rs) (allP (bothTo (kindN 2) l).2.length ks)))), (16, (rowOf 3 stepX (stepsL (stepR meetsN (bothTo (kindN 2) l).1) (allP (bothTo (kindN 2) l).2.length ks) (allP (bothTo (kindN 2) l).2.length rs)))), (18, (.own 1)), (19, (.int .i64 ((i : Int))))], [(1, (.grow (T.map stepX) 64 3))], 2⟩ ∧ g = os.length - i) [3, 12, 13, 14, 16, 18, 19] 2 _ (by omega) ⟨0, (stepsL (stepR meetsN (bothTo (kindN 2) l).1) (allP (bothTo (kindN 2) l).2.length rs) (allP (bothTo (kindN 2) l).2.length ks)), (by omega), (by exact List.Perm.refl _), (Eq.trans (b := (⟨[(3, (nums os)), (12, (nums (allP (bothTo (kindN 2) l).2.length rs))), (13, (nums (allP (bothTo (kindN 2) l).2.length ks))), (14, (rowOf 3 stepX (stepsL (stepR meetsN (bothTo (kindN 2) l).1) (allP (bothTo (kindN 2) l).2.length rs) (allP (bothTo (kindN 2) l).2.length ks)))), (16, (rowOf 3 stepX (stepsL (stepR meetsN (bothTo (kindN 2) l).1) (allP (bothTo (kindN 2) l).2.length ks) (allP (bothTo (kindN 2) l).2.length rs)))), (18, (.own 1)), (19, (.int .i64 (0)))], [(1, (.grow (([] : List AV) ++ ((List.range ((stepsL (stepR meetsN (bothTo (kindN 2) l).1) (allP (bothTo (kindN 2) l).2.length rs) (allP (bothTo (kindN 2) l).2.length ks)).length)).map (fun kx => ((.agg [(.int .i64 ((nth (stepsL (stepR meetsN (bothTo (kindN 2) l).1) (allP (bothTo (kindN 2) l).2.length rs) (allP (bothTo (kindN 2) l).2.length ks)) kx).1)), (.int .i64 ((nth (stepsL (stepR meetsN (bothTo (kindN 2) l).1) (allP (bothTo (kindN 2) l).2.length rs) (allP (bothTo (kindN 2) l).2.length ks)) kx).2.1)), (.int .i64 ((nth (stepsL (stepR meetsN (bothTo (kindN 2) l).1) (allP (bothTo (kindN 2) l).2.length rs) (allP (bothTo (kindN 2) l).2.length ks)) kx).2.2))]) : AV)))) 64 3))], 2⟩ : St)) (by kernel_rfl) (by rw [List.nil_append, ← range_all stepX]; rfl)), rfl⟩ ?_
    rintro g1 y1 ⟨i, T, f1_1, f1_2, rfl, rfl⟩
    refine SW_seq ?_
    obtain ⟨b1, hb1⟩ : ∃ b, b = (decide ((i : Int) < (os.length : Int))) := ⟨_, rfl⟩
    refine SW_H (CS := [(6, (b1 = true → b1 = true)), (7, (b1 = true → b1 = true)), (8, (b1 = true → b1 = true))]) [81, 82, 83] [3, 12, 13, 14, 16, 18, 19, 84] [] hk0 (vk 5 80 (a := .bool (decide ((i : Int) < (os.length : Int)))) (b := .bool b1) (Imp.of_eq (by rw [hb1])) <| v0) (by refine cc _ ?_ <| cc _ ?_ <| cc _ ?_ c0 <;> first | omega | (simp; omega) | (simp; done) | (intros; simp_all; omega) | (intros; simp_all; done)) ?_
    refine SW_cond (q := b1 && (decide (0 < ((T.map stepX).length : Int)))) (by kernel_rfl) (fun c2 => ?_) (fun c2 => ?_)
    · skip
      subst hb1
      try simp only [Bool.and_eq_true, Bool.or_eq_true, Bool.and_eq_false_iff, Bool.or_eq_false_iff, Bool.not_eq_true', Bool.not_eq_false', decide_eq_true_eq, decide_eq_false_iff_not] at c2
      have hbi := hbo i (by omega)
      refine SW_skip ?_
      refine SW_seq ?_
      refine SW_block ?_
      refine SW_H [] [3, 12, 13, 14, 16, 18, 19, 20] [] hk0 v0 (cc 2 (p := (0 ≤ (i : Int) ∧ i < os.length)) (by first | omega | (simp; omega) | (simp; done) | (intros; simp_all; omega) | (intros; simp_all; done)) <| c0) ?_
      refine SW_C (fun y => ∃ (v : Int), 0 ≤ v ∧ y = ⟨[(3, (nums os)), (12, (nums (allP (bothTo (kindN 2) l).2.length rs))), (13, (nums (allP (bothTo (kindN 2) l).2.length ks))), (14, (rowOf 3 stepX (stepsL (stepR meetsN (bothTo (kindN 2) l).1) (allP (bothTo (kindN 2) l).2.length rs) (allP (bothTo (kindN 2) l).2.length ks)))), (16, (rowOf 3 stepX (stepsL (stepR meetsN (bothTo (kindN 2) l).1) (allP (bothTo (kindN 2) l).2.length ks) (allP (bothTo (kindN 2) l).2.length rs)))), (18, (.own 1)), (19, (.int .i64 ((i : Int)))), (20, (.int .i64 (v)))], [(1, (.grow (T.map stepX) 64 3))], 2⟩) [3, 12, 13, 14, 16, 18, 19, 20] 2 (by omega) ?_ ?_
      · skip
        refine SW_P [] [3, 12, 13, 14, 16, 18, 19, 20, 92] ?_
        refine SW_if (p := (nth os i) < 0) (by kernel_rfl) (fun c3 => ?_) (fun c3 => ?_)
        · skip
          refine SW_reg ?_
          refine SO_HA (CS := [(1, (-9223372036854775808 ≤ (nth os i) + 1 ∧ (nth os i) + 1 ≤ 9223372036854775807)), (2, (-9223372036854775808 ≤ 0 - ((nth os i) + 1) ∧ 0 - ((nth os i) + 1) ≤ 9223372036854775807))]) 0 [] [3, 12, 13, 14, 16, 18, 19, 20] [] hk0 v0 (by refine cc _ ?_ <| cc _ ?_ c0 <;> first | omega | (simp; omega) | (simp; done) | (intros; simp_all; omega) | (intros; simp_all; done)) ?_
          refine ⟨by kernel_rfl, (0 - ((nth os i) + 1)), ?_, (by kernel_rfl)⟩
          omega
        · skip
          refine SW_skip ?_
          refine ⟨by kernel_rfl, (nth os i), ?_, (by kernel_rfl)⟩
          omega
      · rintro y1 ⟨v, hv, rfl⟩
        have hlT : (T.map stepX).length = T.length := List.length_map _
        have htm := tmod_in (n := (T.map stepX).length) hv (by omega)
        refine SW_H [] [3, 12, 13, 14, 16, 18, 19, 20] [] hk0 v0 (cc 3 (p := (((T.map stepX).length : Int) ≠ 0)) (by first | omega | (simp; omega) | (simp; done) | (intros; simp_all; omega) | (intros; simp_all; done)) <| c0) ?_
        refine SW_seq ?_
        refine SW_reg ?_
        refine SO_H 1 0 [] [3, 12, 13, 14, 16, 18, 19, 20, 100] [] hk0 v0 c0 ?_
        refine SO_opidx (b := 1) (i := 0) (es := T.map stepX) (e := 64) (sz := 3) (k := .i64) (s' := [(3, (nums os)), (12, (nums (allP (bothTo (kindN 2) l).2.length rs))), (13, (nums (allP (bothTo (kindN 2) l).2.length ks))), (14, (rowOf 3 stepX (stepsL (stepR meetsN (bothTo (kindN 2) l).1) (allP (bothTo (kindN 2) l).2.length rs) (allP (bothTo (kindN 2) l).2.length ks)))), (16, (rowOf 3 stepX (stepsL (stepR meetsN (bothTo (kindN 2) l).1) (allP (bothTo (kindN 2) l).2.length ks) (allP (bothTo (kindN 2) l).2.length rs)))), (18, (.own 1)), (19, (.int .i64 ((i : Int)))), (20, (.int .i64 (Int.tmod v ((T.map stepX).length : Int)))), (100, (.own 1)), (101, (.op 1 (0 * 3)))]) (by kernel_rfl) (by kernel_rfl) (by kernel_rfl) (by kernel_rfl) (by kernel_rfl) (by kernel_rfl) (by first | omega | (rw [List.length_set]; omega)) (by kernel_rfl) ?_
        refine SO_opload (b := 1) (e := 64) (sz := 3) (es := T.map stepX) (o := 0 * 3) (i := 0) (j := 0) (a := (.agg [(.int .i64 ((nth T 0).1)), (.int .i64 ((nth T 0).2.1)), (.int .i64 ((nth T 0).2.2))])) (r := (.agg [(.int .i64 ((nth T 0).1)), (.int .i64 ((nth T 0).2.1)), (.int .i64 ((nth T 0).2.2))])) (s' := [(3, (nums os)), (12, (nums (allP (bothTo (kindN 2) l).2.length rs))), (13, (nums (allP (bothTo (kindN 2) l).2.length ks))), (14, (rowOf 3 stepX (stepsL (stepR meetsN (bothTo (kindN 2) l).1) (allP (bothTo (kindN 2) l).2.length rs) (allP (bothTo (kindN 2) l).2.length ks)))), (16, (rowOf 3 stepX (stepsL (stepR meetsN (bothTo (kindN 2) l).1) (allP (bothTo (kindN 2) l).2.length ks) (allP (bothTo (kindN 2) l).2.length rs)))), (18, (.own 1)), (19, (.int .i64 ((i : Int)))), (20, (.int .i64 (Int.tmod v ((T.map stepX).length : Int)))), (100, (.own 1)), (101, (.op 1 (0 * 3))), (102, (.agg [(.int .i64 ((nth T 0).1)), (.int .i64 ((nth T 0).2.1)), (.int .i64 ((nth T 0).2.2))]))]) (by kernel_rfl) (by kernel_rfl) rfl (by kernel_rfl) (get_map (l := T) stepX (by omega)) (by kernel_rfl) (by kernel_rfl) ?_
        refine SO_HA 3 [] [3, 12, 13, 14, 16, 18, 19, 20, 21] [] hk0 v0 c0 ?_
        refine SW_seq ?_
        refine SW_reg ?_
        refine SO_H 3 0 [] [3, 12, 13, 14, 16, 18, 19, 20, 21, 103, 104, 105] [(0, 21)] hk0 (vk 2 20 (a := (.int .i64 (Int.tmod v ((T.map stepX).length : Int)))) (b := (.int .i64 (((Int.tmod v ((T.map stepX).length : Int)).toNat : Int)))) (show Imp (.int .i64 (Int.tmod v ((T.map stepX).length : Int))) (.int .i64 (((Int.tmod v ((T.map stepX).length : Int)).toNat : Int))) from Imp.of_eq (congrArg (AV.int .i64) (int_of htm.1))) <| v0) c0 ?_
        refine SO_opidx (b := 1) (i := (Int.tmod v ((T.map stepX).length : Int)).toNat) (es := T.map stepX) (e := 64) (sz := 3) (k := .i64) (s' := [(3, (nums os)), (12, (nums (allP (bothTo (kindN 2) l).2.length rs))), (13, (nums (allP (bothTo (kindN 2) l).2.length ks))), (14, (rowOf 3 stepX (stepsL (stepR meetsN (bothTo (kindN 2) l).1) (allP (bothTo (kindN 2) l).2.length rs) (allP (bothTo (kindN 2) l).2.length ks)))), (16, (rowOf 3 stepX (stepsL (stepR meetsN (bothTo (kindN 2) l).1) (allP (bothTo (kindN 2) l).2.length ks) (allP (bothTo (kindN 2) l).2.length rs)))), (18, (.own 1)), (19, (.int .i64 ((i : Int)))), (20, (.int .i64 (((Int.tmod v ((T.map stepX).length : Int)).toNat : Int)))), (21, (.fp (.agg [(.int .i64 ((nth T 0).1)), (.int .i64 ((nth T 0).2.1)), (.int .i64 ((nth T 0).2.2))]))), (103, (.own 1)), (104, (.own 1)), (105, (.int .i64 (((Int.tmod v ((T.map stepX).length : Int)).toNat : Int)))), (106, (.op 1 (((Int.tmod v ((T.map stepX).length : Int)).toNat) * 3)))]) (by kernel_rfl) (by kernel_rfl) (by kernel_rfl) (by kernel_rfl) (by kernel_rfl) (by kernel_rfl) (by first | omega | (rw [List.length_set]; omega)) (by kernel_rfl) ?_
        refine SO_opload (b := 1) (e := 64) (sz := 3) (es := T.map stepX) (o := ((Int.tmod v ((T.map stepX).length : Int)).toNat) * 3) (i := (Int.tmod v ((T.map stepX).length : Int)).toNat) (j := 0) (a := (.agg [(.int .i64 ((nth T ((Int.tmod v ((T.map stepX).length : Int)).toNat)).1)), (.int .i64 ((nth T ((Int.tmod v ((T.map stepX).length : Int)).toNat)).2.1)), (.int .i64 ((nth T ((Int.tmod v ((T.map stepX).length : Int)).toNat)).2.2))])) (r := (.agg [(.int .i64 ((nth T ((Int.tmod v ((T.map stepX).length : Int)).toNat)).1)), (.int .i64 ((nth T ((Int.tmod v ((T.map stepX).length : Int)).toNat)).2.1)), (.int .i64 ((nth T ((Int.tmod v ((T.map stepX).length : Int)).toNat)).2.2))])) (s' := [(3, (nums os)), (12, (nums (allP (bothTo (kindN 2) l).2.length rs))), (13, (nums (allP (bothTo (kindN 2) l).2.length ks))), (14, (rowOf 3 stepX (stepsL (stepR meetsN (bothTo (kindN 2) l).1) (allP (bothTo (kindN 2) l).2.length rs) (allP (bothTo (kindN 2) l).2.length ks)))), (16, (rowOf 3 stepX (stepsL (stepR meetsN (bothTo (kindN 2) l).1) (allP (bothTo (kindN 2) l).2.length ks) (allP (bothTo (kindN 2) l).2.length rs)))), (18, (.own 1)), (19, (.int .i64 ((i : Int)))), (20, (.int .i64 (((Int.tmod v ((T.map stepX).length : Int)).toNat : Int)))), (21, (.fp (.agg [(.int .i64 ((nth T 0).1)), (.int .i64 ((nth T 0).2.1)), (.int .i64 ((nth T 0).2.2))]))), (103, (.own 1)), (104, (.own 1)), (105, (.int .i64 (((Int.tmod v ((T.map stepX).length : Int)).toNat : Int)))), (106, (.op 1 (((Int.tmod v ((T.map stepX).length : Int)).toNat) * 3))), (107, (.agg [(.int .i64 ((nth T ((Int.tmod v ((T.map stepX).length : Int)).toNat)).1)), (.int .i64 ((nth T ((Int.tmod v ((T.map stepX).length : Int)).toNat)).2.1)), (.int .i64 ((nth T ((Int.tmod v ((T.map stepX).length : Int)).toNat)).2.2))]))]) (by kernel_rfl) (by kernel_rfl) rfl (by kernel_rfl) (get_map (l := T) stepX (by omega)) (by kernel_rfl) (by kernel_rfl) ?_
        refine SO_opidx (b := 1) (i := 0) (es := T.map stepX) (e := 64) (sz := 3) (k := .i64) (s' := [(3, (nums os)), (12, (nums (allP (bothTo (kindN 2) l).2.length rs))), (13, (nums (allP (bothTo (kindN 2) l).2.length ks))), (14, (rowOf 3 stepX (stepsL (stepR meetsN (bothTo (kindN 2) l).1) (allP (bothTo (kindN 2) l).2.length rs) (allP (bothTo (kindN 2) l).2.length ks)))), (16, (rowOf 3 stepX (stepsL (stepR meetsN (bothTo (kindN 2) l).1) (allP (bothTo (kindN 2) l).2.length ks) (allP (bothTo (kindN 2) l).2.length rs)))), (18, (.own 1)), (19, (.int .i64 ((i : Int)))), (20, (.int .i64 (((Int.tmod v ((T.map stepX).length : Int)).toNat : Int)))), (21, (.fp (.agg [(.int .i64 ((nth T 0).1)), (.int .i64 ((nth T 0).2.1)), (.int .i64 ((nth T 0).2.2))]))), (103, (.own 1)), (104, (.own 1)), (105, (.int .i64 (((Int.tmod v ((T.map stepX).length : Int)).toNat : Int)))), (106, (.op 1 (((Int.tmod v ((T.map stepX).length : Int)).toNat) * 3))), (107, (.agg [(.int .i64 ((nth T ((Int.tmod v ((T.map stepX).length : Int)).toNat)).1)), (.int .i64 ((nth T ((Int.tmod v ((T.map stepX).length : Int)).toNat)).2.1)), (.int .i64 ((nth T ((Int.tmod v ((T.map stepX).length : Int)).toNat)).2.2))])), (108, (.op 1 (0 * 3)))]) (by kernel_rfl) (by kernel_rfl) (by kernel_rfl) (by kernel_rfl) (by kernel_rfl) (by kernel_rfl) (by first | omega | (rw [List.length_set]; omega)) (by kernel_rfl) ?_
        refine SO_opstore (b := 1) (e := 64) (sz := 3) (es := T.map stepX) (o := 0 * 3) (i := 0) (j := 0) (a := (.agg [(.int .i64 ((nth T 0).1)), (.int .i64 ((nth T 0).2.1)), (.int .i64 ((nth T 0).2.2))])) (r := (.agg [(.int .i64 ((nth T ((Int.tmod v ((T.map stepX).length : Int)).toNat)).1)), (.int .i64 ((nth T ((Int.tmod v ((T.map stepX).length : Int)).toNat)).2.1)), (.int .i64 ((nth T ((Int.tmod v ((T.map stepX).length : Int)).toNat)).2.2))])) (v := (.agg [(.int .i64 ((nth T ((Int.tmod v ((T.map stepX).length : Int)).toNat)).1)), (.int .i64 ((nth T ((Int.tmod v ((T.map stepX).length : Int)).toNat)).2.1)), (.int .i64 ((nth T ((Int.tmod v ((T.map stepX).length : Int)).toNat)).2.2))])) (s' := [(3, (nums os)), (12, (nums (allP (bothTo (kindN 2) l).2.length rs))), (13, (nums (allP (bothTo (kindN 2) l).2.length ks))), (14, (rowOf 3 stepX (stepsL (stepR meetsN (bothTo (kindN 2) l).1) (allP (bothTo (kindN 2) l).2.length rs) (allP (bothTo (kindN 2) l).2.length ks)))), (16, (rowOf 3 stepX (stepsL (stepR meetsN (bothTo (kindN 2) l).1) (allP (bothTo (kindN 2) l).2.length ks) (allP (bothTo (kindN 2) l).2.length rs)))), (18, (.own 1)), (19, (.int .i64 ((i : Int)))), (20, (.int .i64 (((Int.tmod v ((T.map stepX).length : Int)).toNat : Int)))), (21, (.fp (.agg [(.int .i64 ((nth T 0).1)), (.int .i64 ((nth T 0).2.1)), (.int .i64 ((nth T 0).2.2))]))), (103, (.own 1)), (104, (.own 1)), (105, (.int .i64 (((Int.tmod v ((T.map stepX).length : Int)).toNat : Int)))), (106, (.op 1 (((Int.tmod v ((T.map stepX).length : Int)).toNat) * 3))), (107, (.agg [(.int .i64 ((nth T ((Int.tmod v ((T.map stepX).length : Int)).toNat)).1)), (.int .i64 ((nth T ((Int.tmod v ((T.map stepX).length : Int)).toNat)).2.1)), (.int .i64 ((nth T ((Int.tmod v ((T.map stepX).length : Int)).toNat)).2.2))])), (108, (.op 1 (0 * 3)))]) (by kernel_rfl) (by kernel_rfl) rfl (by kernel_rfl) (by kernel_rfl) (get_map (l := T) stepX (by omega)) (by kernel_rfl) (by kernel_rfl) ?_
        refine SO_nil ?_
        refine SW_reg ?_
        refine SO_H 3 0 [] [3, 12, 13, 14, 16, 18, 19, 109, 110, 111] [] hk0 v0 c0 ?_
        refine SO_opidx (b := 1) (i := (Int.tmod v ((T.map stepX).length : Int)).toNat) (es := (T.map stepX).set 0 (.agg [(.int .i64 ((nth T ((Int.tmod v ((T.map stepX).length : Int)).toNat)).1)), (.int .i64 ((nth T ((Int.tmod v ((T.map stepX).length : Int)).toNat)).2.1)), (.int .i64 ((nth T ((Int.tmod v ((T.map stepX).length : Int)).toNat)).2.2))])) (e := 64) (sz := 3) (k := .i64) (s' := [(3, (nums os)), (12, (nums (allP (bothTo (kindN 2) l).2.length rs))), (13, (nums (allP (bothTo (kindN 2) l).2.length ks))), (14, (rowOf 3 stepX (stepsL (stepR meetsN (bothTo (kindN 2) l).1) (allP (bothTo (kindN 2) l).2.length rs) (allP (bothTo (kindN 2) l).2.length ks)))), (16, (rowOf 3 stepX (stepsL (stepR meetsN (bothTo (kindN 2) l).1) (allP (bothTo (kindN 2) l).2.length ks) (allP (bothTo (kindN 2) l).2.length rs)))), (18, (.own 1)), (19, (.int .i64 ((i : Int)))), (109, (.own 1)), (110, (.int .i64 (((Int.tmod v ((T.map stepX).length : Int)).toNat : Int)))), (111, (.agg [(.int .i64 ((nth T 0).1)), (.int .i64 ((nth T 0).2.1)), (.int .i64 ((nth T 0).2.2))])), (112, (.op 1 (((Int.tmod v ((T.map stepX).length : Int)).toNat) * 3)))]) (by kernel_rfl) (by kernel_rfl) (by kernel_rfl) (by kernel_rfl) (by kernel_rfl) (by kernel_rfl) (by first | omega | (rw [List.length_set]; omega)) (by kernel_rfl) ?_
        refine SO_opstore (b := 1) (e := 64) (sz := 3) (es := (T.map stepX).set 0 (.agg [(.int .i64 ((nth T ((Int.tmod v ((T.map stepX).length : Int)).toNat)).1)), (.int .i64 ((nth T ((Int.tmod v ((T.map stepX).length : Int)).toNat)).2.1)), (.int .i64 ((nth T ((Int.tmod v ((T.map stepX).length : Int)).toNat)).2.2))])) (o := ((Int.tmod v ((T.map stepX).length : Int)).toNat) * 3) (i := (Int.tmod v ((T.map stepX).length : Int)).toNat) (j := 0) (a := (.agg [(.int .i64 ((nth (T.set 0 (nth T ((Int.tmod v ((T.map stepX).length : Int)).toNat))) ((Int.tmod v ((T.map stepX).length : Int)).toNat)).1)), (.int .i64 ((nth (T.set 0 (nth T ((Int.tmod v ((T.map stepX).length : Int)).toNat))) ((Int.tmod v ((T.map stepX).length : Int)).toNat)).2.1)), (.int .i64 ((nth (T.set 0 (nth T ((Int.tmod v ((T.map stepX).length : Int)).toNat))) ((Int.tmod v ((T.map stepX).length : Int)).toNat)).2.2))])) (r := (.agg [(.int .i64 ((nth T 0).1)), (.int .i64 ((nth T 0).2.1)), (.int .i64 ((nth T 0).2.2))])) (v := (.agg [(.int .i64 ((nth T 0).1)), (.int .i64 ((nth T 0).2.1)), (.int .i64 ((nth T 0).2.2))])) (s' := [(3, (nums os)), (12, (nums (allP (bothTo (kindN 2) l).2.length rs))), (13, (nums (allP (bothTo (kindN 2) l).2.length ks))), (14, (rowOf 3 stepX (stepsL (stepR meetsN (bothTo (kindN 2) l).1) (allP (bothTo (kindN 2) l).2.length rs) (allP (bothTo (kindN 2) l).2.length ks)))), (16, (rowOf 3 stepX (stepsL (stepR meetsN (bothTo (kindN 2) l).1) (allP (bothTo (kindN 2) l).2.length ks) (allP (bothTo (kindN 2) l).2.length rs)))), (18, (.own 1)), (19, (.int .i64 ((i : Int)))), (109, (.own 1)), (110, (.int .i64 (((Int.tmod v ((T.map stepX).length : Int)).toNat : Int)))), (111, (.agg [(.int .i64 ((nth T 0).1)), (.int .i64 ((nth T 0).2.1)), (.int .i64 ((nth T 0).2.2))])), (112, (.op 1 (((Int.tmod v ((T.map stepX).length : Int)).toNat) * 3)))]) (by kernel_rfl) (by kernel_rfl) rfl (by kernel_rfl) (by kernel_rfl) (set_at (y := nth T ((Int.tmod v ((T.map stepX).length : Int)).toNat)) (by omega)) (by kernel_rfl) (by kernel_rfl) ?_
        refine SO_nil ?_
        refine SW_reg ?_
        refine SO_HA 0 [] [3, 12, 13, 14, 16, 18, 19] [] hk0 v0 (cc 1 (p := (-9223372036854775808 ≤ (i : Int) + 1 ∧ (i : Int) + 1 ≤ 9223372036854775807)) (by first | omega | (simp; omega) | (simp; done) | (intros; simp_all; omega) | (intros; simp_all; done)) <| c0) ?_
        refine ⟨by kernel_rfl, _, ?_, i + 1, (turnL T ((Int.tmod v ((T.map stepX).length : Int)).toNat)), ?_, ?_, (Eq.trans (b := (⟨[(3, (nums os)), (12, (nums (allP (bothTo (kindN 2) l).2.length rs))), (13, (nums (allP (bothTo (kindN 2) l).2.length ks))), (14, (rowOf 3 stepX (stepsL (stepR meetsN (bothTo (kindN 2) l).1) (allP (bothTo (kindN 2) l).2.length rs) (allP (bothTo (kindN 2) l).2.length ks)))), (16, (rowOf 3 stepX (stepsL (stepR meetsN (bothTo (kindN 2) l).1) (allP (bothTo (kindN 2) l).2.length ks) (allP (bothTo (kindN 2) l).2.length rs)))), (18, (.own 1)), (19, (.int .i64 ((i : Int) + 1)))], [(1, (.grow (((T.map stepX).set 0 (.agg [(.int .i64 ((nth T ((Int.tmod v ((T.map stepX).length : Int)).toNat)).1)), (.int .i64 ((nth T ((Int.tmod v ((T.map stepX).length : Int)).toNat)).2.1)), (.int .i64 ((nth T ((Int.tmod v ((T.map stepX).length : Int)).toNat)).2.2))])).set ((Int.tmod v ((T.map stepX).length : Int)).toNat) (.agg [(.int .i64 ((nth T 0).1)), (.int .i64 ((nth T 0).2.1)), (.int .i64 ((nth T 0).2.2))])) 64 3))], 2⟩ : St)) (by kernel_rfl) (by rw [turn_map] <;> kernel_rfl)), rfl⟩
        · omega
        · omega
        · exact (turn_perm (by omega)).trans f1_2
    · skip
      subst hb1
      try simp only [Bool.and_eq_true, Bool.or_eq_true, Bool.and_eq_false_iff, Bool.or_eq_false_iff, Bool.not_eq_true', Bool.not_eq_false', decide_eq_true_eq, decide_eq_false_iff_not] at c2
      refine SW_exit ?_
      refine SW_H [] [12, 13, 14, 16, 18, 22] [] (hk 2 en_27 ((Apply_ok (allP (bothTo (kindN 2) l).2.length rs) (stepsL (stepR meetsN (bothTo (kindN 2) l).1) (allP (bothTo (kindN 2) l).2.length rs) (allP (bothTo (kindN 2) l).2.length ks)) (by omega) (by first | omega | (have := f1_2.length_eq; omega))).to (Same.of_eq (by rw [h1]))) <| hk 4 en_17 ((rSame_ok (allP (bothTo (kindN 2) l).2.length ks) (allP (bothTo (kindN 2) l).2.length ks) (by omega)).to (Same.of_eq (congrArg AV.bool (decide_eq_true rfl)))) <| hk0) v0 c0 ?_
      refine SW_H [] [12, 13, 14, 16, 22, 23] [(2, 119)] (hk 2 en_27 ((Apply_ok (allP (bothTo (kindN 2) l).2.length rs) T (by omega) (by first | omega | (have := f1_2.length_eq; omega))).to (Same.of_eq (by rw [(h3 T f1_2)]))) <| hk 4 en_17 ((rSame_ok (allP (bothTo (kindN 2) l).2.length ks) (allP (bothTo (kindN 2) l).2.length ks) (by omega)).to (Same.of_eq (congrArg AV.bool (decide_eq_true rfl)))) <| hk0) (vk 2 119 (b := (rowOf 3 stepX T)) (owns_imp (es := (T.map stepX)) (l := T) rfl) <| v0) c0 ?_
      refine SW_H [] [14, 16, 22, 23, 24] [] (hk 2 en_27 ((Apply_ok (allP (bothTo (kindN 2) l).2.length ks) (stepsL (stepR meetsN (bothTo (kindN 2) l).1) (allP (bothTo (kindN 2) l).2.length ks) (allP (bothTo (kindN 2) l).2.length rs)) (by omega) (by first | omega | (have := f1_2.length_eq; omega))).to (Same.of_eq (by rw [h2]))) <| hk 4 en_17 ((rSame_ok (allP (bothTo (kindN 2) l).2.length rs) (allP (bothTo (kindN 2) l).2.length rs) (by omega)).to (Same.of_eq (congrArg AV.bool (decide_eq_true rfl)))) <| hk0) v0 c0 ?_
      refine SW_seq ?_
      refine SW_P [] [14, 16, 22, 23, 24, 25] ?_
      refine SW_block ?_
      refine SW_L (fun g y => ∃ (k : Nat), k ≤ (stepsL (stepR meetsN (bothTo (kindN 2) l).1) (allP (bothTo (kindN 2) l).2.length rs) (allP (bothTo (kindN 2) l).2.length ks)).length ∧ y = ⟨[(14, (rowOf 3 stepX (stepsL (stepR meetsN (bothTo (kindN 2) l).1) (allP (bothTo (kindN 2) l).2.length rs) (allP (bothTo (kindN 2) l).2.length ks)))), (16, (rowOf 3 stepX (stepsL (stepR meetsN (bothTo (kindN 2) l).1) (allP (bothTo (kindN 2) l).2.length ks) (allP (bothTo (kindN 2) l).2.length rs)))), (22, (.bool (true))), (23, (.bool (true))), (24, (.bool (true))), (25, (.int .i64 ((k : Int))))], [], 2⟩ ∧ g = (stepsL (stepR meetsN (bothTo (kindN 2) l).1) (allP (bothTo (kindN 2) l).2.length rs) (allP (bothTo (kindN 2) l).2.length ks)).length - k) [14, 16, 22, 23, 24, 25] 2 _ (by omega) ⟨0, (by omega), (by kernel_rfl), rfl⟩ ?_
      rintro g2 y2 ⟨k, f2_1, rfl, rfl⟩
      refine SW_seq ?_
      refine SW_P [] [14, 16, 22, 23, 24, 25, 131] ?_
      refine SW_if (p := (k : Int) < ((stepsL (stepR meetsN (bothTo (kindN 2) l).1) (allP (bothTo (kindN 2) l).2.length rs) (allP (bothTo (kindN 2) l).2.length ks)).length : Int)) (by kernel_rfl) (fun c4 => ?_) (fun c4 => ?_)
      · skip
        refine SW_skip ?_
        refine SW_seq ?_
        refine SW_block ?_
        refine SW_H [] [14, 16, 22, 23, 24, 25, 26] [] (hk 4 en_32 (rComes_ok (nth (stepsL (stepR meetsN (bothTo (kindN 2) l).1) (allP (bothTo (kindN 2) l).2.length rs) (allP (bothTo (kindN 2) l).2.length ks)) k)) <| hk0) v0 (cc 2 (p := (0 ≤ (k : Int) ∧ k < (stepsL (stepR meetsN (bothTo (kindN 2) l).1) (allP (bothTo (kindN 2) l).2.length rs) (allP (bothTo (kindN 2) l).2.length ks)).length)) (by first | omega | (simp; omega) | (simp; done) | (intros; simp_all; omega) | (intros; simp_all; done)) <| c0) ?_
        refine SW_H [] [14, 16, 22, 23, 24, 25, 26, 27] [] (hk 4 en_33 (rGoes_ok (nth (stepsL (stepR meetsN (bothTo (kindN 2) l).1) (allP (bothTo (kindN 2) l).2.length ks) (allP (bothTo (kindN 2) l).2.length rs)) k)) <| hk0) v0 (cc 2 (p := (0 ≤ (k : Int) ∧ k < (stepsL (stepR meetsN (bothTo (kindN 2) l).1) (allP (bothTo (kindN 2) l).2.length ks) (allP (bothTo (kindN 2) l).2.length rs)).length)) (by first | omega | (simp; omega) | (simp; done) | (intros; simp_all; omega) | (intros; simp_all; done)) <| c0) ?_
        refine SW_D (CS := [(2, (0 ≤ (k : Int) ∧ k < (stepsL (stepR meetsN (bothTo (kindN 2) l).1) (allP (bothTo (kindN 2) l).2.length rs) (allP (bothTo (kindN 2) l).2.length ks)).length)), (7, (0 ≤ (k : Int) ∧ k < (stepsL (stepR meetsN (bothTo (kindN 2) l).1) (allP (bothTo (kindN 2) l).2.length ks) (allP (bothTo (kindN 2) l).2.length rs)).length)), (14, ((!(!decide (((nth (stepsL (stepR meetsN (bothTo (kindN 2) l).1) (allP (bothTo (kindN 2) l).2.length rs) (allP (bothTo (kindN 2) l).2.length ks)) k).2.1) = ((nth (stepsL (stepR meetsN (bothTo (kindN 2) l).1) (allP (bothTo (kindN 2) l).2.length ks) (allP (bothTo (kindN 2) l).2.length rs)) k).2.1)))) = true → (!(!decide (((nth (stepsL (stepR meetsN (bothTo (kindN 2) l).1) (allP (bothTo (kindN 2) l).2.length rs) (allP (bothTo (kindN 2) l).2.length ks)) k).2.1) = ((nth (stepsL (stepR meetsN (bothTo (kindN 2) l).1) (allP (bothTo (kindN 2) l).2.length ks) (allP (bothTo (kindN 2) l).2.length rs)) k).2.1)))) = true ∧ (!(!decide (((nth (stepsL (stepR meetsN (bothTo (kindN 2) l).1) (allP (bothTo (kindN 2) l).2.length rs) (allP (bothTo (kindN 2) l).2.length ks)) k).2.1) = ((nth (stepsL (stepR meetsN (bothTo (kindN 2) l).1) (allP (bothTo (kindN 2) l).2.length ks) (allP (bothTo (kindN 2) l).2.length rs)) k).2.1)))) = true)), (15, ((!decide (((nth (stepsL (stepR meetsN (bothTo (kindN 2) l).1) (allP (bothTo (kindN 2) l).2.length rs) (allP (bothTo (kindN 2) l).2.length ks)) k).2.1) = ((nth (stepsL (stepR meetsN (bothTo (kindN 2) l).1) (allP (bothTo (kindN 2) l).2.length ks) (allP (bothTo (kindN 2) l).2.length rs)) k).2.1))) = false → (!(!decide (((nth (stepsL (stepR meetsN (bothTo (kindN 2) l).1) (allP (bothTo (kindN 2) l).2.length rs) (allP (bothTo (kindN 2) l).2.length ks)) k).2.1) = ((nth (stepsL (stepR meetsN (bothTo (kindN 2) l).1) (allP (bothTo (kindN 2) l).2.length ks) (allP (bothTo (kindN 2) l).2.length rs)) k).2.1)))) = true))]) [156, 157, 158] [14, 16, 22, 23, 24, 25, 159] [] hk0 v0 (by refine cc _ ?_ <| cc _ ?_ <| cc _ ?_ <| cc _ ?_ c0 <;> first | omega | (simp; omega) | (simp; done) | (intros; simp_all; omega) | (intros; simp_all; done)) ?_
        refine SW_cond (q := (!decide (((nth (stepsL (stepR meetsN (bothTo (kindN 2) l).1) (allP (bothTo (kindN 2) l).2.length rs) (allP (bothTo (kindN 2) l).2.length ks)) k).2.1) = ((nth (stepsL (stepR meetsN (bothTo (kindN 2) l).1) (allP (bothTo (kindN 2) l).2.length ks) (allP (bothTo (kindN 2) l).2.length rs)) k).2.1))) || (!((comesB (nth (stepsL (stepR meetsN (bothTo (kindN 2) l).1) (allP (bothTo (kindN 2) l).2.length rs) (allP (bothTo (kindN 2) l).2.length ks)) k).1) == (goesB (nth (stepsL (stepR meetsN (bothTo (kindN 2) l).1) (allP (bothTo (kindN 2) l).2.length ks) (allP (bothTo (kindN 2) l).2.length rs)) k).1)))) (by kernel_rfl) (fun c5 => ?_) (fun c5 => ?_)
        · try simp only [Bool.and_eq_true, Bool.or_eq_true, Bool.and_eq_false_iff, Bool.or_eq_false_iff, Bool.not_eq_true', Bool.not_eq_false', decide_eq_true_eq, decide_eq_false_iff_not] at c5
          have hsb := steps_back (f := (stepR meetsN (bothTo (kindN 2) l).1)) (a := (allP (bothTo (kindN 2) l).2.length rs)) (b := (allP (bothTo (kindN 2) l).2.length ks)) hso (i := k) (by omega)
          exfalso
          rw [hsb.1, hsb.2] at c5
          simp at c5
        · try simp only [Bool.and_eq_true, Bool.or_eq_true, Bool.and_eq_false_iff, Bool.or_eq_false_iff, Bool.not_eq_true', Bool.not_eq_false', decide_eq_true_eq, decide_eq_false_iff_not] at c5
          refine SW_skip ?_
          refine SW_reg ?_
          refine SO_HA 0 [] [14, 16, 22, 23, 24, 25] [] hk0 v0 (cc 1 (p := (-9223372036854775808 ≤ (k : Int) + 1 ∧ (k : Int) + 1 ≤ 9223372036854775807)) (by first | omega | (simp; omega) | (simp; done) | (intros; simp_all; omega) | (intros; simp_all; done)) <| c0) ?_
          refine ⟨by kernel_rfl, _, ?_, k + 1, ?_, (by kernel_rfl), rfl⟩
          · omega
          · omega
      · skip
        refine SW_exit ?_
        refine SW_P [] [8] ?_
        refine SW_ret ?_
        refine RK wR [(.bool (true))] ?_
        exact Same.of_eq (by first | rfl | (simp only [pack]; simp_all))
end Sv
end Go.Proofs.YtlfjokcbkopfeaaGreatDoor
end
section
namespace Go.Proofs.YtlfjokcbkopfeaaGreatDoor
open Go Go.RowKit
section
variable {H : Type} {enc : TypeId × Value → H} {P : Program} {W : World}
def Two {α β : Type} (R : α → β → Prop) : List α → List β → Prop
  | [], [] => True
  | a :: l, b :: m => R a b ∧ Two R l m
  | _, _ => False
theorem Two.len {α β : Type} {R : α → β → Prop} : ∀ {l : List α} {m : List β}, Two R l m → m.length = l.length
  | [], [], _ => rfl
  | _ :: _, _ :: _, h => by simp only [List.length_cons, Two.len h.2]
theorem addr_spot {w : World} {a : Addr} {v : Value} (h : w.cell? a = some v) : a.spot = none := by
  unfold World.cell? at h
  cases hs : a.spot with
  | none => rfl
  | some k => rw [hs] at h; split at h <;> simp at h
theorem open_elems {α : Type} {e : TypeId} {sz n : Nat} {a : Addr} (hc : P.cellsOf e = sz) {Q : α → List Value → Prop} {size : α → Nat}
    (each : ∀ cs' y, cs'.length = sz → DataW.trod enc P W 0 (fun _ => true) true n e cs' = some y → ∃ x, Q x cs' ∧ size x ≤ Rows.uptoBulk y.1) :
    ∀ (elems : List (DataW H × List MemPlace)) (i : Nat), (∀ j, j < elems.length → (W.cells? 0 (a.add ((i + j) * sz)) sz).bind (DataW.trod enc P W 0 (fun _ => true) true n e) = elems[j]?) →
      ∃ (l : List α) (css : List (List Value)), l.length = elems.length ∧ Two Q l css ∧ (l.map size).sum ≤ Rows.uptoBulkAll (elems.map (·.1)) ∧ (∀ c ∈ css, c.length = sz) ∧
        ∀ j u, css.flatten[j]? = some u → W.cell? (a.add (i * sz + j)) = some u
  | [], i, _ => ⟨[], [], rfl, trivial, by simp, by simp, by simp⟩
  | y :: r, i, h => by
    have h0 := h 0 (by simp)
    simp only [Nat.add_zero, List.getElem?_cons_zero] at h0
    obtain ⟨cs', h1, h2⟩ := Option.bind_eq_some_iff.1 h0
    obtain ⟨_, hl, hcs⟩ := World.cells?_some h1
    obtain ⟨x, hx, hs⟩ := each cs' y hl h2
    obtain ⟨l, css, e1, e2, e3, e4, e5⟩ := open_elems hc each r (i + 1) (fun j hj => by
      have := h (j + 1) (by simpa using hj)
      rw [show i + (j + 1) = i + 1 + j by omega] at this
      simpa using this)
    refine ⟨x :: l, cs' :: css, by simp [e1], ⟨hx, e2⟩, ?_, ?_, ?_⟩
    · simp only [List.map_cons, List.sum_cons, Rows.uptoBulkAll]; omega
    · intro c hc'; rcases List.mem_cons.1 hc' with rfl | hc'
      · exact hl
      · exact e4 c hc'
    · intro j u hu
      rw [List.flatten_cons] at hu
      by_cases hj : j < sz
      · rw [List.getElem?_append_left (by omega)] at hu
        have := hcs j hj
        rw [hu] at this
        rw [← this]
        congr 1
        show a.add (i * sz + j) = (a.add (i * sz)).add j
        unfold Addr.add
        by_cases h1 : i * sz = 0 <;> by_cases h2 : j = 0 <;> simp [h1, h2, Nat.add_assoc]
      · rw [List.getElem?_append_right (by omega), hl] at hu
        have := e5 (j - sz) u hu
        rw [← this]; congr 2
        have : (i + 1) * sz = i * sz + sz := by rw [Nat.add_mul, Nat.one_mul]
        omega
theorem open_list {α : Type} {t e : TypeId} {sz fuel : Nat} {cs : List Value} {y : DataW H × List MemPlace} (ht : P.underlying t = some (.slice e)) (hc : P.cellsOf e = sz) (hsz : 0 < sz) {Q : α → List Value → Prop} {size : α → Nat}
    (each : ∀ n cs' y, n < fuel → cs'.length = sz → DataW.trod enc P W 0 (fun _ => true) true n e cs' = some y → ∃ x, Q x cs' ∧ size x ≤ Rows.uptoBulk y.1) (h : DataW.trod enc P W 0 (fun _ => true) true fuel t cs = some y) :
    ∃ (v : Value) (l : List α) (css : List (List Value)), cs = [v] ∧ RowIs W v l.length sz css.flatten ∧ Two Q l css ∧ (∀ c ∈ css, c.length = sz) ∧ (l.map size).sum + 1 ≤ Rows.uptoBulk y.1 := by
  rcases DataW.trod_slice ht h with ⟨rfl, rfl⟩ | ⟨a, len, cap, elems, rest, n, hf, rfl, rfl, _, _, _, hlen, hel, _, _⟩
  · exact ⟨_, [], [], rfl, ⟨by simp, .inl ⟨rfl, _, _, rfl⟩⟩, trivial, by simp, by simp [Rows.uptoBulk]⟩
  · subst hc
    obtain ⟨l, css, e1, e2, e3, e4, e5⟩ := open_elems (a := a) rfl (each n · · (by omega)) elems 0 (fun j hj => by rw [Nat.zero_add]; exact hel j (by omega))
    have hfl : css.flatten.length = l.length * P.cellsOf e := by
      rw [← e2.len, List.length_flatten]
      clear e5 e2 e1
      induction css with
      | nil => simp
      | cons c r ih => simp only [List.map_cons, List.sum_cons, List.length_cons]; rw [ih (fun c hc => e4 c (by simp [hc])), e4 c (by simp), Nat.add_mul]; omega
    refine ⟨_, l, css, rfl, ⟨hfl, ?_⟩, e2, e4, by simp only [Rows.uptoBulk]; omega⟩
    by_cases hn : l.length = 0
    · exact .inl ⟨hn, some a, cap, by rw [← hlen, ← e1, hn]⟩
    · right
      have hp : 0 < css.flatten.length := by rw [hfl]; exact Nat.mul_pos (by omega) hsz
      have hsp := addr_spot (a := a) (by have := e5 0 _ (List.getElem?_eq_getElem hp); rw [Nat.zero_mul] at this; exact this)
      obtain ⟨b, o, sp⟩ := a
      simp only at hsp; subst hsp
      refine ⟨b, o, cap, by rw [← hlen, ← e1], fun j u hu => ?_⟩
      have := e5 j u hu
      rw [Nat.zero_mul, Nat.zero_add] at this
      rw [← this]; congr 1
      unfold Addr.add; split <;> simp_all
end
section
variable {H : Type} {enc : TypeId × Value → H} {W : World}
theorem S_of (s : ByteArray) : Value.string s = S s.data.toList := by simp [S]
theorem argsSize_sum (l : List DepT) : (l.map DepT.size).sum = argsSize l := by
  induction l with
  | nil => rfl
  | cons d r ih => simp only [List.map_cons, List.sum_cons, argsSize, ih]
end
end Go.Proofs.YtlfjokcbkopfeaaGreatDoor
end
section
namespace Go.Proofs.YtlfjokcbkopfeaaGreatDoor
open Go Go.RowKit
set_option linter.unusedSimpArgs false
set_option linter.unusedVariables false
namespace Sv
def allF (W : World) : Nat → Option Obj := fun b => W.heap[b]?
theorem fro_all (W : World) : Fro (allF W) W := fun _ _ e => e
theorem cell_block {w : World} {b k : Nat} {v : Value} (h : w.cell? ⟨b, k, none⟩ = some v) : ∃ cs e fr, w.heap[b]? = some (.cells cs e fr) ∧ cs[k]? = some v := by
  unfold World.cell? at h
  split at h
  · rename_i c e fr hb
    exact ⟨c, e, fr, hb, by simpa using h⟩
  · cases h
theorem two_nth {α : Type} [Inhabited α] {R : α → List Value → Prop} : ∀ {l : List α} {m : List (List Value)}, Two R l m → ∀ {i}, i < l.length → R (Go.Proofs.YtlfjokcbkopfeaaGreatDoor.nth l i) (Go.Proofs.YtlfjokcbkopfeaaGreatDoor.nth m i)
  | [], [], _, i, h => by simp at h
  | _ :: _, [], h, _, _ => h.elim
  | a :: l, b :: m, h, 0, _ => h.1
  | a :: l, b :: m, h, i + 1, hi => two_nth (l := l) (m := m) h.2 (by simpa using hi)
section
variable {H : Type} {enc : TypeId × Value → H} {P : Program} {W : World}
theorem open_listV {α : Type} [Inhabited α] {t e : TypeId} {sz fuel : Nat} {cs : List Value} {y : DataW H × List MemPlace} (ht : P.underlying t = some (.slice e)) (hc : P.cellsOf e = sz) (hsz : 0 < sz) {f : α → AV} {size : α → Nat} (wrap : List Value → Value)
    (hw : ∀ cs', cs'.length = sz → (∀ c ∈ cs', c.oneCell' = true) → (wrap cs').cells.toList = cs')
    (each : ∀ n cs' y, n < fuel → cs'.length = sz → DataW.trod enc P W 0 (fun _ => true) true n e cs' = some y → ∃ x, (VR (ofF (allF W)) (f x) (wrap cs') ∧ ∀ c ∈ cs', c.oneCell' = true) ∧ size x ≤ Rows.uptoBulk y.1) (h : DataW.trod enc P W 0 (fun _ => true) true fuel t cs = some y) :
    ∃ (v : Value) (l : List α), cs = [v] ∧ VR (ofF (allF W)) (rowOf sz f l) v ∧ (l.map size).sum + 1 ≤ Rows.uptoBulk y.1 := by
  obtain ⟨v, l, css, rfl, hr, h2, h4, h5⟩ := open_list (Q := fun x cs' => VR (ofF (allF W)) (f x) (wrap cs') ∧ ∀ c ∈ cs', c.oneCell' = true) ht hc hsz each h
  refine ⟨v, l, rfl, ?_, h5⟩
  have hshape : v = .slice none 0 0 ∨ ∃ a n c, v = .slice (some a) n c ∧ n ≤ c := by
    rcases DataW.trod_slice ht h with ⟨e, _⟩ | ⟨a, len, cap, _, _, _, _, e, _, _, hle, _⟩
    · left; simpa using e
    · right; exact ⟨a, len, cap, by simpa using e, hle⟩
  unfold rowOf
  simp only [VR]
  have hlen := h2.len
  refine ⟨fun i => wrap (nth css i), fun i hi => (two_nth h2 hi).1, ?_⟩
  rcases hr.2 with ⟨h0, a, c, rfl⟩ | ⟨b, o, c, rfl, hcell⟩
  · refine .inl ⟨h0, ?_⟩
    rcases hshape with e | ⟨a', n, c', e, _⟩
    · exact .inl e
    · cases e; exact .inr ⟨a', c, rfl⟩
  · have hnc : l.length ≤ c := by
      rcases hshape with e | ⟨a', n, c', e, hle⟩
      · cases e
      · cases e; exact hle
    refine .inr ⟨b, o, c, rfl, hnc, fun i hi => ?_⟩
    have hmem : nth css i ∈ css := nth_mem (by omega)
    have hwr := hw _ (h4 _ hmem) (two_nth h2 hi).2
    have hat : ∀ j, j < sz → css.flatten[i * sz + j]? = (nth css i)[j]? := fun j hj => flat_at (sz := sz) css i j h4 (by omega) hj
    refine ⟨by rw [← Array.length_toList, hwr]; exact h4 _ hmem, ?_⟩
    rw [hwr]
    have hl := h4 _ hmem
    obtain ⟨cs0, e0, fr0, k1, _⟩ := cell_block (hcell (i * sz + 0) _ ((hat 0 hsz).trans (List.getElem?_eq_getElem (show 0 < (nth css i).length by omega))))
    refine ⟨cs0, e0, fr0, k1, fun j u hu => ?_⟩
    have hj : j < sz := by have := (List.getElem?_eq_some_iff.1 hu).1; omega
    obtain ⟨cs1, e1, fr1, k2, k3⟩ := cell_block (hcell (i * sz + j) u ((hat j hj).trans hu))
    rw [k1] at k2; cases k2
    exact ⟨by rw [Nat.add_assoc]; exact k3, (two_nth h2 hi).2 u (List.mem_of_getElem? hu)⟩
set_option maxRecDepth 100000 in
theorem open_depVF : ∀ (fuel : Nat) (cs : List Value) (x : DataW H × List MemPlace), DataW.trod enc Tryz.prog W 0 (fun _ => true) true fuel 25 cs = some x → ∃ d : DepT, (VR (ofF (allF W)) (depX d) (.agg cs.toArray) ∧ ∀ c ∈ cs, c.oneCell' = true) ∧ d.size ≤ Rows.uptoBulk x.1 := by
  intro fuel
  induction fuel using Nat.strongRecOn with
  | ind fuel ih =>
  intro cs x h
  obtain ⟨xs, n, hf, rfl, hl, hxs, hfs⟩ := DataW.trod_struct Tryz.underlying25 h
  have hl' : cs.length = 5 := hl.trans (by kernel_rfl)
  match cs, hl' with
  | [c0, c1, c2, c3, c4], _ =>
  match xs, hxs with
  | [y0, y1, y2, y3, y4], _ =>
  have g0 : DataW.trod enc Tryz.prog W 0 (fun _ => true) true n 3 (([c0, c1, c2, c3, c4].drop 0).take (Tryz.prog.cellsOf 3)) = some y0 := hfs 0 _ rfl
  have g1 : DataW.trod enc Tryz.prog W 0 (fun _ => true) true n 9 (([c0, c1, c2, c3, c4].drop 1).take (Tryz.prog.cellsOf 9)) = some y1 := hfs 1 _ rfl
  have g2 : DataW.trod enc Tryz.prog W 0 (fun _ => true) true n 3 (([c0, c1, c2, c3, c4].drop 2).take (Tryz.prog.cellsOf 3)) = some y2 := hfs 2 _ rfl
  have g3 : DataW.trod enc Tryz.prog W 0 (fun _ => true) true n 9 (([c0, c1, c2, c3, c4].drop 3).take (Tryz.prog.cellsOf 9)) = some y3 := hfs 3 _ rfl
  have g4 : DataW.trod enc Tryz.prog W 0 (fun _ => true) true n 23 (([c0, c1, c2, c3, c4].drop 4).take (Tryz.prog.cellsOf 23)) = some y4 := hfs 4 _ rfl
  have k1 : Tryz.prog.cellsOf 3 = 1 := by kernel_rfl
  have k2 : Tryz.prog.cellsOf 9 = 1 := by kernel_rfl
  have k3 : Tryz.prog.cellsOf 23 = 1 := by kernel_rfl
  have k4 : Tryz.prog.cellsOf 25 = 5 := by kernel_rfl
  rw [k1] at g0 g2; rw [k2] at g1 g3; rw [k3] at g4
  simp only [List.drop_zero, List.drop_succ_cons, List.take_succ_cons, List.take_zero] at g0 g1 g2 g3 g4
  obtain ⟨k, e0, rfl, _⟩ := DataW.trod_int Tryz.underlying3 g0
  obtain ⟨nm, e1, rfl, _⟩ := DataW.trod_string Tryz.underlying9 g1
  obtain ⟨op, e2, rfl, _⟩ := DataW.trod_int Tryz.underlying3 g2
  obtain ⟨ev, e3, rfl, _⟩ := DataW.trod_string Tryz.underlying9 g3
  obtain ⟨v, l, e4, hr, hb⟩ := open_listV (f := depX) (size := DepT.size) Tryz.underlying23 k4 (by omega) (fun cs => .agg cs.toArray) (fun cs' _ _ => by simp [Value.cells]) (fun n' cs' y hn _ hy => ih n' (by omega) cs' y hy) g4
  have hsl : v.oneCell' = true := by
    have hr' := hr
    unfold rowOf at hr'
    simp only [VR] at hr'
    obtain ⟨u, _, h0 | ⟨b, o, c, rfl, _⟩⟩ := hr'
    · rcases h0 with ⟨_, rfl | ⟨a, c, rfl⟩⟩ <;> rfl
    · rfl
  simp only [List.cons.injEq, and_true] at e0 e1 e2 e3 e4
  subst e0 e1 e2 e3 e4
  refine ⟨.mk k nm.data.toList op ev.data.toList l, ⟨?_, ?_⟩, ?_⟩
  · refine depX_shut _ _ _ ?_
    simp only [VR]
    refine ⟨_, .cons (by simp only [VR]; rfl) (.cons (by simp only [VR]; exact S_of nm) (.cons (by simp only [VR]; rfl) (.cons (by simp only [VR]; exact S_of ev) (.cons hr .nil)))), rfl⟩
  · intro c hc
    simp only [List.mem_cons, List.not_mem_nil, or_false] at hc
    rcases hc with rfl | rfl | rfl | rfl | rfl
    · rfl
    · rfl
    · rfl
    · rfl
    · exact hsl
  · rw [argsSize_sum] at hb
    simp only [DepT.size, List.map_cons, List.map_nil, Rows.uptoBulk, Rows.uptoBulkAll]
    omega
set_option maxRecDepth 100000 in
theorem open_depV {r : Reach} {b0 : Nat} {v : Value} {d : DataW H} {p : List MemPlace} (hv : Value.okWide Tryz.prog W r b0 25 v) (h : DataW.Trod enc Tryz.prog W 0 (fun _ => true) true 25 v d p) :
    ∃ t : DepT, VR (ofF (allF W)) (depX t) v ∧ t.size ≤ Rows.uptoBulk d := by
  obtain ⟨cs, rfl, _⟩ := Go.WideShapes.okWide_struct Tryz.underlying25 hv
  obtain ⟨fuel, hf⟩ := h
  obtain ⟨t, h1, h2⟩ := open_depVF fuel _ _ hf
  exact ⟨t, by have := h1.1; simpa [Value.cells] using this, h2⟩
end
theorem FnV.calls {P : Program} {f : Nat} {al : List AV} {W : World} {vs : List Value} (h : FnV P f al (.bool true)) (hv : VRl (ofF (allF W)) al vs) : Calls P f vs.toArray W (Ret fun v w' => v = .bool true ∧ Below W.heap.size W w') :=
  (h (allF W) W vs (fro_all W) hv).mono fun e w' hh => by
    obtain ⟨v, he, hb, F', _, _, _, k⟩ := hh
    simp only [VR] at k
    exact ⟨v, he, k, hb⟩
end Sv
end Go.Proofs.YtlfjokcbkopfeaaGreatDoor
end
section
namespace Go.Proofs.YtlfjokcbkopfeaaGreatDoor
open Go Go.RowKit
set_option linter.unusedSimpArgs false
set_option linter.unusedVariables false
namespace Sv
section
variable {H : Type} {enc : TypeId × Value → H} {W : World}
theorem one_cells {v : Value} (h : v.oneCell' = true) : v.cells.toList = [v] := by cases v <;> simp_all [Value.cells, Value.oneCell']
theorem row_one {sz n : Nat} {g : Nat → AV} {v : Value} (h : VR (ofF (allF W)) (.row sz n g) v) : v.oneCell' = true := by
 simp only [VR] at h
 obtain ⟨u, _, h0 | ⟨b, o, c, rfl, _⟩⟩ := h
 ·rcases h0 with ⟨_, rfl | ⟨a, c, rfl⟩⟩ <;> rfl
 ·rfl
theorem files_sum (l : List (List UInt8)) : (l.map fun x => x.length + 1).sum = filesSize l := by
 induction l with
 | nil => rfl
 | cons d r ih => simp only [List.map_cons, List.sum_cons, filesSize, ih]; omega
theorem open_strsV {fuel : Nat} {cs : List Value} {y : DataW H × List MemPlace} (h : DataW.trod enc Tryz.prog W 0 (fun _ => true) true fuel 36 cs = some y) :
  ∃ (v : Value) (l : List (List UInt8)), cs = [v] ∧ VR (ofF (allF W)) (strs l) v ∧ filesSize l + 1 ≤ Rows.uptoBulk y.1 := by
 obtain ⟨v, l, h1, h2, h3⟩ := open_listV (f := AV.str) (size := fun x => x.length + 1) (sz := 1) Tryz.underlying36 (show Tryz.prog.cellsOf 9 = 1 by kernel_rfl) (by omega) (fun cs => cs.headD undef) (fun cs' hl ho => by
  match cs', hl with
  | [c], _ => exact one_cells (ho c (by simp))) (fun n cs' y _ hl hy => by
  obtain ⟨s, e, rfl, _⟩ := DataW.trod_string Tryz.underlying9 hy
  subst e
  exact ⟨s.data.toList, ⟨by first | (simp only [VR, List.headD]; done) | (simp only [VR, List.headD]; exact S_of s), by intro c hc; simp at hc; subst hc; rfl⟩, by simp [Rows.uptoBulk]⟩) h
 exact ⟨v, l, h1, h2, by rw [files_sum] at h3; exact h3⟩
theorem ones_sum {α : Type} (l : List α) : (l.map fun _ => 1).sum = l.length := by
 induction l with
 | nil => rfl
 | cons d r ih => simp only [List.map_cons, List.sum_cons, List.length_cons, ih]; omega
abbrev I64 := { x : Int // -9223372036854775808 ≤ x ∧ x ≤ 9223372036854775807 }
instance : Inhabited I64 := ⟨⟨0, by decide⟩⟩
theorem i64_wf {n : Int} (h : (Lit.int .i64 n).wf = true) : -9223372036854775808 ≤ n ∧ n ≤ 9223372036854775807 := by
 simp only [Lit.wf, Bool.and_eq_true, decide_eq_true_eq] at h
 rw [show IntKind.min .i64 = -9223372036854775808 by kernel_rfl, show IntKind.max .i64 = 9223372036854775807 by kernel_rfl] at h
 exact h
theorem open_numsV {fuel : Nat} {cs : List Value} {y : DataW H × List MemPlace} (h : DataW.trod enc Tryz.prog W 0 (fun _ => true) true fuel 26 cs = some y) :
  ∃ (v : Value) (l : List Int), cs = [v] ∧ VR (ofF (allF W)) (nums l) v ∧ l.length + 1 ≤ Rows.uptoBulk y.1 ∧ ∀ i, i < l.length → -9223372036854775808 ≤ nth l i ∧ nth l i ≤ 9223372036854775807 := by
 obtain ⟨v, l, h1, h2, h3⟩ := open_listV (α := I64) (f := fun x => AV.int .i64 x.1) (size := fun _ => 1) (sz := 1) Tryz.underlying26 (show Tryz.prog.cellsOf 3 = 1 by kernel_rfl) (by omega) (fun cs => cs.headD undef) (fun cs' hl ho => by
  match cs', hl with
  | [c], _ => exact one_cells (ho c (by simp))) (fun n cs' y _ hl hy => by
  obtain ⟨s, e, rfl, hw⟩ := DataW.trod_int Tryz.underlying3 hy
  subst e
  exact ⟨⟨s, i64_wf hw⟩, ⟨by simp only [VR, List.headD], by intro c hc; simp at hc; subst hc; rfl⟩, by simp [Rows.uptoBulk]⟩) h
 have hn : ∀ i, i < l.length → nth (l.map Subtype.val) i = (nth l i).1 := fun i hi => by simp [nth, hi]
 refine ⟨v, l.map Subtype.val, h1, ?_, by rw [List.length_map]; rw [ones_sum] at h3; exact h3, fun i hi => ?_⟩
 ·refine Imp.trans (b := .row 1 (l.map Subtype.val).length (fun i => .int .i64 (nth l i).1)) ?_ (Imp.row fun i hi => Imp.of_eq (by rw [hn i (by simpa using hi)])) _ _ h2
  rw [List.length_map]; exact Imp.refl
 ·rw [List.length_map] at hi
  rw [hn i hi]; exact (nth l i).2
theorem open_depsV {fuel : Nat} {cs : List Value} {y : DataW H × List MemPlace} (h : DataW.trod enc Tryz.prog W 0 (fun _ => true) true fuel 23 cs = some y) :
  ∃ (v : Value) (l : List DepT), cs = [v] ∧ VR (ofF (allF W)) (deps l) v ∧ argsSize l + 1 ≤ Rows.uptoBulk y.1 := by
 obtain ⟨v, l, h1, h2, h3⟩ := open_listV (f := depX) (size := DepT.size) Tryz.underlying23 (show Tryz.prog.cellsOf 25 = 5 by kernel_rfl) (by omega) (fun cs => .agg cs.toArray) (fun cs' _ _ => by simp [Value.cells]) (fun n cs' y _ _ hy => open_depVF n cs' y hy) h
 exact ⟨v, l, h1, h2, by rw [argsSize_sum] at h3; exact h3⟩
set_option maxHeartbeats 1000000 in
set_option maxRecDepth 100000 in
theorem open_pkgV {fuel : Nat} {cs : List Value} {x : DataW H × List MemPlace} (h : DataW.trod enc Tryz.prog W 0 (fun _ => true) true fuel 38 cs = some x) : ∃ d : PkgT, (VR (ofF (allF W)) (pkgX d) (.agg cs.toArray) ∧ ∀ c ∈ cs, c.oneCell' = true) ∧ d.size + 1 ≤ Rows.uptoBulk x.1 := by
 obtain ⟨xs, n, hf, rfl, hl, hxs, hfs⟩ := DataW.trod_struct Tryz.underlying38 h
 have hl' : cs.length = 12 := hl.trans (by kernel_rfl)
 match cs, hl' with
 | [c0, c1, c2, c3, c4, c5, c6, c7, c8, c9, c10, c11], _ =>
 match xs, hxs with
 | [y0, y1, y2, y3, y4, y5, y6, y7, y8, y9, y10, y11], _ =>
 have g0 : DataW.trod enc Tryz.prog W 0 (fun _ => true) true n 9 [c0] = some y0 := by
  have g : DataW.trod enc Tryz.prog W 0 (fun _ => true) true n 9 (([c0, c1, c2, c3, c4, c5, c6, c7, c8, c9, c10, c11].drop 0).take (Tryz.prog.cellsOf 9)) = some y0 := hfs 0 _ rfl
  rw [show Tryz.prog.cellsOf 9 = 1 by kernel_rfl] at g
  exact g
 have g1 : DataW.trod enc Tryz.prog W 0 (fun _ => true) true n 9 [c1] = some y1 := by
  have g : DataW.trod enc Tryz.prog W 0 (fun _ => true) true n 9 (([c0, c1, c2, c3, c4, c5, c6, c7, c8, c9, c10, c11].drop 1).take (Tryz.prog.cellsOf 9)) = some y1 := hfs 1 _ rfl
  rw [show Tryz.prog.cellsOf 9 = 1 by kernel_rfl] at g
  exact g
 have g2 : DataW.trod enc Tryz.prog W 0 (fun _ => true) true n 9 [c2] = some y2 := by
  have g : DataW.trod enc Tryz.prog W 0 (fun _ => true) true n 9 (([c0, c1, c2, c3, c4, c5, c6, c7, c8, c9, c10, c11].drop 2).take (Tryz.prog.cellsOf 9)) = some y2 := hfs 2 _ rfl
  rw [show Tryz.prog.cellsOf 9 = 1 by kernel_rfl] at g
  exact g
 have g3 : DataW.trod enc Tryz.prog W 0 (fun _ => true) true n 9 [c3] = some y3 := by
  have g : DataW.trod enc Tryz.prog W 0 (fun _ => true) true n 9 (([c0, c1, c2, c3, c4, c5, c6, c7, c8, c9, c10, c11].drop 3).take (Tryz.prog.cellsOf 9)) = some y3 := hfs 3 _ rfl
  rw [show Tryz.prog.cellsOf 9 = 1 by kernel_rfl] at g
  exact g
 have g4 : DataW.trod enc Tryz.prog W 0 (fun _ => true) true n 23 [c4] = some y4 := by
  have g : DataW.trod enc Tryz.prog W 0 (fun _ => true) true n 23 (([c0, c1, c2, c3, c4, c5, c6, c7, c8, c9, c10, c11].drop 4).take (Tryz.prog.cellsOf 23)) = some y4 := hfs 4 _ rfl
  rw [show Tryz.prog.cellsOf 23 = 1 by kernel_rfl] at g
  exact g
 have g5 : DataW.trod enc Tryz.prog W 0 (fun _ => true) true n 23 [c5] = some y5 := by
  have g : DataW.trod enc Tryz.prog W 0 (fun _ => true) true n 23 (([c0, c1, c2, c3, c4, c5, c6, c7, c8, c9, c10, c11].drop 5).take (Tryz.prog.cellsOf 23)) = some y5 := hfs 5 _ rfl
  rw [show Tryz.prog.cellsOf 23 = 1 by kernel_rfl] at g
  exact g
 have g6 : DataW.trod enc Tryz.prog W 0 (fun _ => true) true n 23 [c6] = some y6 := by
  have g : DataW.trod enc Tryz.prog W 0 (fun _ => true) true n 23 (([c0, c1, c2, c3, c4, c5, c6, c7, c8, c9, c10, c11].drop 6).take (Tryz.prog.cellsOf 23)) = some y6 := hfs 6 _ rfl
  rw [show Tryz.prog.cellsOf 23 = 1 by kernel_rfl] at g
  exact g
 have g7 : DataW.trod enc Tryz.prog W 0 (fun _ => true) true n 23 [c7] = some y7 := by
  have g : DataW.trod enc Tryz.prog W 0 (fun _ => true) true n 23 (([c0, c1, c2, c3, c4, c5, c6, c7, c8, c9, c10, c11].drop 7).take (Tryz.prog.cellsOf 23)) = some y7 := hfs 7 _ rfl
  rw [show Tryz.prog.cellsOf 23 = 1 by kernel_rfl] at g
  exact g
 have g8 : DataW.trod enc Tryz.prog W 0 (fun _ => true) true n 23 [c8] = some y8 := by
  have g : DataW.trod enc Tryz.prog W 0 (fun _ => true) true n 23 (([c0, c1, c2, c3, c4, c5, c6, c7, c8, c9, c10, c11].drop 8).take (Tryz.prog.cellsOf 23)) = some y8 := hfs 8 _ rfl
  rw [show Tryz.prog.cellsOf 23 = 1 by kernel_rfl] at g
  exact g
 have g9 : DataW.trod enc Tryz.prog W 0 (fun _ => true) true n 23 [c9] = some y9 := by
  have g : DataW.trod enc Tryz.prog W 0 (fun _ => true) true n 23 (([c0, c1, c2, c3, c4, c5, c6, c7, c8, c9, c10, c11].drop 9).take (Tryz.prog.cellsOf 23)) = some y9 := hfs 9 _ rfl
  rw [show Tryz.prog.cellsOf 23 = 1 by kernel_rfl] at g
  exact g
 have g10 : DataW.trod enc Tryz.prog W 0 (fun _ => true) true n 23 [c10] = some y10 := by
  have g : DataW.trod enc Tryz.prog W 0 (fun _ => true) true n 23 (([c0, c1, c2, c3, c4, c5, c6, c7, c8, c9, c10, c11].drop 10).take (Tryz.prog.cellsOf 23)) = some y10 := hfs 10 _ rfl
  rw [show Tryz.prog.cellsOf 23 = 1 by kernel_rfl] at g
  exact g
 have g11 : DataW.trod enc Tryz.prog W 0 (fun _ => true) true n 36 [c11] = some y11 := by
  have g : DataW.trod enc Tryz.prog W 0 (fun _ => true) true n 36 (([c0, c1, c2, c3, c4, c5, c6, c7, c8, c9, c10, c11].drop 11).take (Tryz.prog.cellsOf 36)) = some y11 := hfs 11 _ rfl
  rw [show Tryz.prog.cellsOf 36 = 1 by kernel_rfl] at g
  exact g
 obtain ⟨s0, e0, rfl, _⟩ := DataW.trod_string Tryz.underlying9 g0
 obtain ⟨s1, e1, rfl, _⟩ := DataW.trod_string Tryz.underlying9 g1
 obtain ⟨s2, e2, rfl, _⟩ := DataW.trod_string Tryz.underlying9 g2
 obtain ⟨s3, e3, rfl, _⟩ := DataW.trod_string Tryz.underlying9 g3
 obtain ⟨w4, s4, e4, r4, b4⟩ := open_depsV g4
 obtain ⟨w5, s5, e5, r5, b5⟩ := open_depsV g5
 obtain ⟨w6, s6, e6, r6, b6⟩ := open_depsV g6
 obtain ⟨w7, s7, e7, r7, b7⟩ := open_depsV g7
 obtain ⟨w8, s8, e8, r8, b8⟩ := open_depsV g8
 obtain ⟨w9, s9, e9, r9, b9⟩ := open_depsV g9
 obtain ⟨w10, s10, e10, r10, b10⟩ := open_depsV g10
 obtain ⟨w11, s11, e11, r11, b11⟩ := open_strsV g11
 simp only [List.cons.injEq, and_true] at e0 e1 e2 e3 e4 e5 e6 e7 e8 e9 e10 e11
 subst e0 e1 e2 e3 e4 e5 e6 e7 e8 e9 e10 e11
 refine ⟨⟨s0.data.toList, s1.data.toList, s2.data.toList, s3.data.toList, s4, s5, s6, s7, s8, s9, s10, s11⟩, ⟨?_, ?_⟩, ?_⟩
 ·unfold pkgX
  simp only [VR]
  exact ⟨_, .cons (by first | (simp only [VR]; done) | (simp only [VR]; exact S_of s0)) (.cons (by first | (simp only [VR]; done) | (simp only [VR]; exact S_of s1)) (.cons (by first | (simp only [VR]; done) | (simp only [VR]; exact S_of s2)) (.cons (by first | (simp only [VR]; done) | (simp only [VR]; exact S_of s3)) (.cons r4 (.cons r5 (.cons r6 (.cons r7 (.cons r8 (.cons r9 (.cons r10 (.cons r11 (.nil)))))))))))), rfl⟩
 ·intro c hc
  simp only [List.mem_cons, List.not_mem_nil, or_false] at hc
  rcases hc with rfl | rfl | rfl | rfl | rfl | rfl | rfl | rfl | rfl | rfl | rfl | rfl
  ·exact rfl
  ·exact rfl
  ·exact rfl
  ·exact rfl
  ·exact row_one r4
  ·exact row_one r5
  ·exact row_one r6
  ·exact row_one r7
  ·exact row_one r8
  ·exact row_one r9
  ·exact row_one r10
  ·exact row_one r11
 ·simp only [PkgT.size, PkgT.depSize, List.map_cons, List.map_nil, Rows.uptoBulk, Rows.uptoBulkAll]
  omega
theorem pkgs_sum (l : List PkgT) : (l.map fun p => p.size + 1).sum = pkgsSize l := by
 induction l with
 | nil => rfl
 | cons d r ih => simp only [List.map_cons, List.sum_cons, pkgsSize, ih]; omega
theorem open_pkgsV {fuel : Nat} {cs : List Value} {y : DataW H × List MemPlace} (h : DataW.trod enc Tryz.prog W 0 (fun _ => true) true fuel 39 cs = some y) :
  ∃ (v : Value) (l : List PkgT), cs = [v] ∧ VR (ofF (allF W)) (rowOf 12 pkgX l) v ∧ pkgsSize l + 1 ≤ Rows.uptoBulk y.1 := by
 obtain ⟨v, l, h1, h2, h3⟩ := open_listV (f := pkgX) (size := fun p => p.size + 1) Tryz.underlying39 (show Tryz.prog.cellsOf 38 = 12 by kernel_rfl) (by omega) (fun cs => .agg cs.toArray) (fun cs' _ _ => by simp [Value.cells]) (fun n cs' y _ _ hy => by
  obtain ⟨d, h1, h2⟩ := open_pkgV hy
  exact ⟨d, h1, h2⟩) h
 exact ⟨v, l, h1, h2, by rw [pkgs_sum] at h3; exact h3⟩
set_option maxHeartbeats 1000000 in
set_option maxRecDepth 100000 in
theorem open_repoV {fuel : Nat} {cs : List Value} {x : DataW H × List MemPlace} (h : DataW.trod enc Tryz.prog W 0 (fun _ => true) true fuel 41 cs = some x) : ∃ d : RepoT, (VR (ofF (allF W)) (repoX d) (.agg cs.toArray) ∧ ∀ c ∈ cs, c.oneCell' = true) ∧ d.size + 1 ≤ Rows.uptoBulk x.1 := by
 obtain ⟨xs, n, hf, rfl, hl, hxs, hfs⟩ := DataW.trod_struct Tryz.underlying41 h
 have hl' : cs.length = 4 := hl.trans (by kernel_rfl)
 match cs, hl' with
 | [c0, c1, c2, c3], _ =>
 match xs, hxs with
 | [y0, y1, y2, y3], _ =>
 have g0 : DataW.trod enc Tryz.prog W 0 (fun _ => true) true n 9 [c0] = some y0 := by
  have g : DataW.trod enc Tryz.prog W 0 (fun _ => true) true n 9 (([c0, c1, c2, c3].drop 0).take (Tryz.prog.cellsOf 9)) = some y0 := hfs 0 _ rfl
  rw [show Tryz.prog.cellsOf 9 = 1 by kernel_rfl] at g
  exact g
 have g1 : DataW.trod enc Tryz.prog W 0 (fun _ => true) true n 3 [c1] = some y1 := by
  have g : DataW.trod enc Tryz.prog W 0 (fun _ => true) true n 3 (([c0, c1, c2, c3].drop 1).take (Tryz.prog.cellsOf 3)) = some y1 := hfs 1 _ rfl
  rw [show Tryz.prog.cellsOf 3 = 1 by kernel_rfl] at g
  exact g
 have g2 : DataW.trod enc Tryz.prog W 0 (fun _ => true) true n 4 [c2] = some y2 := by
  have g : DataW.trod enc Tryz.prog W 0 (fun _ => true) true n 4 (([c0, c1, c2, c3].drop 2).take (Tryz.prog.cellsOf 4)) = some y2 := hfs 2 _ rfl
  rw [show Tryz.prog.cellsOf 4 = 1 by kernel_rfl] at g
  exact g
 have g3 : DataW.trod enc Tryz.prog W 0 (fun _ => true) true n 39 [c3] = some y3 := by
  have g : DataW.trod enc Tryz.prog W 0 (fun _ => true) true n 39 (([c0, c1, c2, c3].drop 3).take (Tryz.prog.cellsOf 39)) = some y3 := hfs 3 _ rfl
  rw [show Tryz.prog.cellsOf 39 = 1 by kernel_rfl] at g
  exact g
 obtain ⟨s0, e0, rfl, _⟩ := DataW.trod_string Tryz.underlying9 g0
 obtain ⟨s1, e1, rfl, _⟩ := DataW.trod_int Tryz.underlying3 g1
 obtain ⟨s2, e2, rfl⟩ := DataW.trod_bool Tryz.underlying4 g2
 obtain ⟨w3, s3, e3, r3, b3⟩ := open_pkgsV g3
 simp only [List.cons.injEq, and_true] at e0 e1 e2 e3
 subst e0 e1 e2 e3
 refine ⟨⟨s0.data.toList, s1, s2, s3⟩, ⟨?_, ?_⟩, ?_⟩
 ·unfold repoX
  simp only [VR]
  exact ⟨_, .cons (by first | (simp only [VR]; done) | (simp only [VR]; exact S_of s0)) (.cons (by simp only [VR]) (.cons (by simp only [VR]) (.cons r3 (.nil)))), rfl⟩
 ·intro c hc
  simp only [List.mem_cons, List.not_mem_nil, or_false] at hc
  rcases hc with rfl | rfl | rfl | rfl
  ·exact rfl
  ·exact rfl
  ·exact rfl
  ·exact row_one r3
 ·simp only [RepoT.size, List.map_cons, List.map_nil, Rows.uptoBulk, Rows.uptoBulkAll]
  omega
theorem open_reposVF {fuel : Nat} {cs : List Value} {y : DataW H × List MemPlace} (h : DataW.trod enc Tryz.prog W 0 (fun _ => true) true fuel 22 cs = some y) :
  ∃ (v : Value) (l : List RepoT), cs = [v] ∧ VR (ofF (allF W)) (rowOf 4 repoX l) v ∧ (l.map RepoT.size).sum + 1 ≤ Rows.uptoBulk y.1 :=
 open_listV (f := repoX) (size := RepoT.size) Tryz.underlying22 (show Tryz.prog.cellsOf 41 = 4 by kernel_rfl) (by omega) (fun cs => .agg cs.toArray) (fun cs' _ _ => by simp [Value.cells]) (fun n cs' y _ _ hy => by
  obtain ⟨d, h1, h2⟩ := open_repoV hy
  exact ⟨d, h1, by omega⟩) h
theorem sum_nth {l : List RepoT} : ∀ {i : Nat}, i < l.length → (nth l i).size ≤ (l.map RepoT.size).sum := by
 induction l with
 | nil => intro i h; simp at h
 | cons r l ih =>
  intro i h
  cases i with
  | zero => simp only [List.map_cons, List.sum_cons]; show r.size ≤ _; omega
  | succ i =>
   have := ih (i := i) (by simpa using h)
   simp only [List.map_cons, List.sum_cons]; show (nth l i).size ≤ _; omega
theorem sum_len : ∀ l : List RepoT, l.length ≤ (l.map RepoT.size).sum
 | [] => Nat.le_refl _
 | r :: l => by
  have := sum_len l
  have : 1 ≤ r.size := by unfold RepoT.size; omega
  simp only [List.map_cons, List.sum_cons, List.length_cons]; omega
set_option maxRecDepth 100000 in
theorem open_repos {r : Reach} {b0 : Nat} {v : Value} {d : DataW H} {p : List MemPlace} (hv : Value.okWide Tryz.prog W r b0 22 v) (h : DataW.Trod enc Tryz.prog W 0 (fun _ => true) true 22 v d p) :
  ∃ l : List RepoT, VR (ofF (allF W)) (rowOf 4 repoX l) v ∧ l.length ≤ Rows.uptoBulk d ∧ ∀ i, i < l.length → (nth l i).size ≤ Rows.uptoBulk d := by
 obtain ⟨a, len, cap, rfl⟩ := Go.WideShapes.okWide_slice Tryz.underlying22 hv
 obtain ⟨fuel, hf⟩ := h
 obtain ⟨v, l, h1, h2, h3⟩ := open_reposVF hf
 have e : Value.slice a len cap = v := by simpa [Value.cells] using h1
 subst e
 have h3 : (l.map RepoT.size).sum + 1 ≤ Rows.uptoBulk d := h3
 exact ⟨l, h2, by have := sum_len l; omega, fun i hi => by have := sum_nth hi; omega⟩
set_option maxRecDepth 100000 in
theorem open_nums {r : Reach} {b0 : Nat} {v : Value} {d : DataW H} {p : List MemPlace} (hv : Value.okWide Tryz.prog W r b0 26 v) (h : DataW.Trod enc Tryz.prog W 0 (fun _ => true) true 26 v d p) :
  ∃ l : List Int, VR (ofF (allF W)) (nums l) v ∧ l.length ≤ Rows.uptoBulk d ∧ ∀ i, i < l.length → -9223372036854775808 ≤ nth l i ∧ nth l i ≤ 9223372036854775807 := by
 obtain ⟨a, len, cap, rfl⟩ := Go.WideShapes.okWide_slice Tryz.underlying26 hv
 obtain ⟨fuel, hf⟩ := h
 obtain ⟨v, l, h1, h2, h3, h4⟩ := open_numsV hf
 have e : Value.slice a len cap = v := by simpa [Value.cells] using h1
 subst e
 have h3 : l.length + 1 ≤ Rows.uptoBulk d := h3
 exact ⟨l, h2, by omega, h4⟩
end
end Sv
end Go.Proofs.YtlfjokcbkopfeaaGreatDoor
end
