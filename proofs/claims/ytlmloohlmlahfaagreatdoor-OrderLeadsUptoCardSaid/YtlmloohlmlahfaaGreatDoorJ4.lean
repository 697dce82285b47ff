/- The texts Ref7a, PoolP, Awake7, ProvP, SortI, IdsV, SetP, Ref1, IdsM, Evr7, DiffP, S39, Diff1, Diff2, Diff3, S40, OrderP, OrdM, Order1, Order2, Order3, Order4, OpenD, OpenV of the proof, joined. Each says at its theorems what it proves. -/
import Derived.Test.YtlmloohlmlahfaaGreatDoorJ3
import Derived.Shelf.Slices.In.SortNone
import Derived.Test.YtlmloohlmlahfaaGreatDoorRows
import Derived.ChangeArms
import Derived.WideShapes
set_option linter.unusedSimpArgs false
set_option linter.unusedVariables false
section
namespace Go.Proofs.YtlmloohlmlahfaaGreatDoor
open Go Go.RowKit
namespace Sv
attribute [local irreducible] SW SO Bn
set_option maxHeartbeats 1000000
set_option maxRecDepth 100000
theorem Q96 : Au Tryz.prog 33 := Ay Tryz.func33 (by kernel_rfl) rfl
theorem Z0 : Au Tryz.prog 61 := Ay Tryz.func61 (by kernel_rfl) rfl
theorem Q0b : Au Tryz.prog 27 := Ay Tryz.func27 (by kernel_rfl) rfl
theorem H4 {α : Type} [Inhabited α] {l : List α} {i : Nat} (h : i < l.length) : l.take (i + 1) = l.take i ++ [nth l i] := by
 rw [List.take_add_one, Rv h]; rfl
theorem Oj {α β : Type} [Inhabited α] {l : List α} {i m : Nat} (f : α → β) (h : i + m ≤ l.length) : (List.range m).map (fun k => f (nth l (i + k))) = ((l.drop i).take m).map f := by
 refine List.ext_getElem (by simp; omega) fun j h1 h2 => ?_
 simp only [List.length_map, List.length_range] at h1
 simp only [List.getElem_map, List.getElem_range, List.getElem_take, List.getElem_drop, nth, List.getElem?_eq_getElem (show i + j < l.length by omega), Option.getD_some]
theorem Ri {α β : Type} [Inhabited α] {l : List α} {i : Nat} (f : α → β) (h : i ≤ l.length) : (List.range (l.length - i)).map (fun k => f (nth l (i + k))) = (l.drop i).map f := by
 rw [Oj f (by omega), List.take_of_length_le (by simp)]
def C7 (n : Int) : List Int → List Int
 | [] => [n]
 | x :: r => if x < n then x :: C7 n r else if x = n then x :: r else n :: x :: r
theorem Q51 {n : Int} {l : List Int} {i : Nat} (hi : i < l.length) (h : nth l i < n) : C7 n (l.drop i) = nth l i :: C7 n (l.drop (i + 1)) := by rw [Lw hi, C7, if_pos h]
theorem Q50 {n : Int} {l : List Int} {i : Nat} (hi : i < l.length) (h : ¬ nth l i < n) (h2 : nth l i = n) : C7 n (l.drop i) = l.drop i := by rw [Lw hi, C7, if_neg h, if_pos h2]
theorem Rk {n : Int} {l : List Int} {i : Nat} (h : i < l.length → ¬ nth l i < n ∧ ¬ nth l i = n) : C7 n (l.drop i) = n :: l.drop i := by
 by_cases hi : i < l.length
 ·rw [Lw hi, C7, if_neg (h hi).1, if_neg (h hi).2]
 ·rw [List.drop_eq_nil_of_le (by omega)]; rfl
theorem V7 (n : Int) : ∀ l : List Int, (C7 n l).length ≤ l.length + 1
 | [] => Nat.le_refl _
 | x :: r => by
  have := V7 n r
  unfold C7
  split
  ·simp only [List.length_cons]; omega
  ·split <;> simp
theorem put1_mem {x n : Int} : ∀ {l : List Int}, x ∈ C7 n l ↔ x = n ∨ x ∈ l
 | [] => by simp [C7]
 | y :: r => by
  unfold C7
  split
  ·rw [List.mem_cons, put1_mem, List.mem_cons]
   constructor
   ·rintro (h | h | h) <;> simp [h]
   ·rintro (h | h | h) <;> simp [h]
  ·split
   ·rename_i h; subst h; simp
   ·rw [List.mem_cons]
def Cr : List Int → Prop
 | [] => True
 | x :: r => (∀ y ∈ r, x < y) ∧ Cr r
theorem V6 {n : Int} : ∀ {l : List Int}, Cr l → Cr (C7 n l)
 | [], _ => ⟨by simp, trivial⟩
 | y :: r, h => by
  unfold C7
  split
  ·rename_i hy
   refine ⟨fun z hz => ?_, V6 h.2⟩
   rcases put1_mem.1 hz with rfl | hz
   ·exact hy
   ·exact h.1 z hz
  ·split
   ·exact h
   ·rename_i h1 h2
    refine ⟨fun z hz => ?_, h⟩
    rcases List.mem_cons.1 hz with rfl | hz
    ·omega
    ·have := h.1 z hz; omega
def idN (n : Nat) (x : Int) : Int := Int.tmod (if x < 0 then 0 - (x + 1) else x) (n : Int)
def Gv (n : Nat) (l : List Int) : List Int := l.foldl (fun s x => C7 (idN n x) s) []
def Cf (n : Nat) (l : List Int) : List Int := if n = 0 then [] else Gv n l
theorem X3l {n : Nat} {l : List Int} {i : Nat} (h : i < l.length) : Gv n (l.take (i + 1)) = C7 (idN n (nth l i)) (Gv n (l.take i)) := by
 unfold Gv; rw [H4 h, List.foldl_append]; rfl
theorem Zd {n : Nat} : ∀ {l s : List Int}, (l.foldl (fun s x => C7 (idN n x) s) s).length ≤ s.length + l.length
 | [], s => Nat.le_refl _
 | x :: l, s => by
  have h1 := Zd (n := n) (l := l) (s := C7 (idN n x) s)
  have h2 := V7 (idN n x) s
  simp only [List.foldl_cons, List.length_cons]; omega
theorem Q2o (n : Nat) (l : List Int) : (Gv n l).length ≤ l.length := by have := Zd (n := n) (l := l) (s := []); simpa [Gv] using this
theorem Q2m (n : Nat) (l : List Int) : (Cf n l).length ≤ l.length := by
 unfold Cf
 split
 ·simp
 ·exact Q2o n l
theorem Zf {n : Nat} {x : Int} : ∀ {l s : List Int}, x ∈ l.foldl (fun s x => C7 (idN n x) s) s ↔ x ∈ s ∨ ∃ y ∈ l, x = idN n y
 | [], s => by simp
 | y :: l, s => by
  rw [List.foldl_cons, Zf, put1_mem]
  constructor
  ·rintro ((h | h) | ⟨z, hz, h⟩)
   ·exact .inr ⟨y, by simp, h⟩
   ·exact .inl h
   ·exact .inr ⟨z, by simp [hz], h⟩
  ·rintro (h | ⟨z, hz, h⟩)
   ·exact .inl (.inr h)
   ·rcases List.mem_cons.1 hz with rfl | hz
    ·exact .inl (.inl h)
    ·exact .inr ⟨z, hz, h⟩
theorem allP_mem {n : Nat} {l : List Int} {x : Int} : x ∈ Cf n l ↔ ¬ n = 0 ∧ ∃ y ∈ l, x = idN n y := by
 unfold Cf
 split
 ·rename_i h; simp [h]
 ·rename_i h; unfold Gv; rw [Zf]; simp [h]
theorem Zc {n : Nat} : ∀ {l s : List Int}, Cr s → Cr (l.foldl (fun s x => C7 (idN n x) s) s)
 | [], s, h => h
 | x :: l, s, h => Zc (l := l) (V6 h)
theorem X3k (n : Nat) (l : List Int) : Cr (Cf n l) := by
 unfold Cf
 split
 ·trivial
 ·exact Zc (s := []) trivial
theorem Q8s {n : Nat} (h : ¬ n = 0) (x : Int) : 0 ≤ idN n x ∧ idN n x < n := by
 unfold idN
 have h0 : 0 ≤ (if x < 0 then 0 - (x + 1) else x) := by split <;> omega
 rw [Int.tmod_eq_emod_of_nonneg h0]
 exact ⟨Int.emod_nonneg _ (by omega), Int.emod_lt_of_pos _ (by omega)⟩
theorem Q2n {n : Nat} {l : List Int} {x : Int} (h : x ∈ Cf n l) : 0 ≤ x ∧ x < n := by
 obtain ⟨h0, y, _, rfl⟩ := allP_mem.1 h
 exact Q8s h0 y
theorem Q5z (l : List Int) (n : Int) (hl : l.length ≤ 4611686018427) :
  FnV Tryz.prog 33 [(Af l), (.int .i64 n)] (Af (C7 n l)) := by
 refine A4 [.tmp 4] Tryz.func33 rfl Tryz.ntmps33 rfl rfl (fun B F hF => ?_)
 refine Aa [] [0, 1] ?_
 refine Aa [] [0, 1, 5] ?_
 refine Ad ?_
 refine A1 ?_
 refine Bv (fun g y => ∃ (i : Nat), i ≤ l.length ∧ C7 n l = l.take i ++ C7 n (l.drop i) ∧ y = ⟨[(0, (Af l)), (1, (.int .i64 n)), (5, (.int .i64 ((i : Int))))], [], 0⟩ ∧ g = l.length - i) [0, 1, 5] 0 _ (by omega) ⟨0, (by omega), (by rfl), (by kernel_rfl), rfl⟩ ?_
 rintro g1 y1 ⟨i, f1_1, f1_2, rfl, rfl⟩
 refine Ad ?_
 obtain ⟨b1, hb1⟩ : ∃ b, b = (decide ((i : Int) < (l.length : Int))) := ⟨_, rfl⟩
 refine Ah (CS := [(7, (b1 = true → (b1 = true ∧ b1 = true) ∧ (0 ≤ (i : Int) ∧ i < l.length))), (8, (b1 = true → b1 = true)), (10, (b1 = true → b1 = true ∧ b1 = true)), (11, (b1 = true → b1 = true))]) [11, 12, 13, 14, 15, 16] [0, 1, 5, 17] [] hk0 (vk 5 10 (a := .bool (decide ((i : Int) < (l.length : Int)))) (b := .bool b1) (Imp.of_eq (by rw [hb1])) <| v0) (by refine cc _ ?_ <| cc _ ?_ <| cc _ ?_ <| cc _ ?_ c0 <;> (intros; simp_all; done)) ?_
 refine Bd (q := b1 && (decide ((nth l i) < n))) (by kernel_rfl) (fun c1 => ?_) (fun c1 => ?_)
 ·subst hb1
  try simp only [Ao] at c1
  refine Ai ?_
  refine A1 ?_
  refine Ap ?_
  refine Av 0 [] [0, 1, 5] [] hk0 v0 (cc 1 (p := (-9223372036854775808 ≤ (i : Int) + 1 ∧ (i : Int) + 1 ≤ 9223372036854775807)) (by omega) <| c0) ?_
  refine ⟨by kernel_rfl, _, ?_, i + 1, ?_, ?_, (by kernel_rfl), rfl⟩
  all_goals first | omega | skip
  rw [f1_2, Q51 (by omega) (by simp_all), H4 (by omega), List.append_assoc]; rfl
 ·subst hb1
  try simp only [Ao] at c1
  refine Br ?_
  refine Ad ?_
  obtain ⟨b2, hb2⟩ : ∃ b, b = (decide ((i : Int) < (l.length : Int))) := ⟨_, rfl⟩
  refine Ah (CS := [(7, (b2 = true → (b2 = true ∧ b2 = true) ∧ (0 ≤ (i : Int) ∧ i < l.length))), (8, (b2 = true → b2 = true)), (10, (b2 = true → b2 = true ∧ b2 = true)), (11, (b2 = true → b2 = true))]) [25, 26, 27, 28, 29, 30] [0, 1, 5, 31] [] hk0 (vk 5 24 (a := .bool (decide ((i : Int) < (l.length : Int)))) (b := .bool b2) (Imp.of_eq (by rw [hb2])) <| v0) (by refine cc _ ?_ <| cc _ ?_ <| cc _ ?_ <| cc _ ?_ c0 <;> (intros; simp_all; done)) ?_
  refine Bd (q := b2 && (decide ((nth l i) = n))) (by kernel_rfl) (fun c2 => ?_) (fun c2 => ?_)
  ·subst hb2
   try simp only [Ao] at c2
   refine Aa [] [4] ?_
   refine Ag ?_
   refine RK wR [(Af l)] ?_
   exact Same.of_eq (by rw [f1_2, Q50 (by omega) (by simp_all) (by simp_all), List.take_append_drop]; rfl)
  ·subst hb2
   try simp only [Ao] at c2
   refine Ai ?_
   refine Ad ?_
   refine It (by kernel_rfl) (fun F1 hF1 => ?_)
   refine C0 (fuel := 6) [] [1, 2, 3, 5, 8, 9, 10] [36, 38, 43] (hold (p := (0 ≤ (0 : Int) ∧ (0 : Int) ≤ (i : Int) ∧ (i : Int) ≤ (l.length : Int)) ∧ (0 ≤ (i : Int) ∧ (i : Int) ≤ (l.length : Int) ∧ (l.length : Int) ≤ (l.length : Int))) (by omega)) ?_
   refine Ck 0 6 (by kernel_rfl) ?_ ?_
   ·refine Bb (fuel := 5) 0 [] A0 ?_
    refine Az [33, 36, 38, 43] ?_
    refine Ck 4 6 (by kernel_rfl) ?_ ?_
    ·refine Bb (fuel := 4) 4 [] (hold (p := ((([] : List AV).length + (i - 0)) * 8 ≤ 140737488355328)) (by (simp; omega))) ?_
     refine Az [37, 38, 43] ?_
     refine Cz (fuel := 3) 6 [] A0 ?_
     refine Cz (fuel := 2) 7 [] (hold (p := (((([] : List AV) ++ ((List.range (i - 0)).map (fun kx => ((.int .i64 (nth l (0 + kx))) : AV)))).length + 1) * 8 ≤ 140737488355328)) (by (simp; omega))) ?_
     refine Cz (fuel := 1) 11 [] (hold (p := ((((([] : List AV) ++ ((List.range (i - 0)).map (fun kx => ((.int .i64 (nth l (0 + kx))) : AV)))) ++ ([(.int .i64 n)] : List AV)).length + (l.length - i)) * 8 ≤ 140737488355328)) (by (simp; omega))) ?_
     refine C0 (fuel := 0) [] [12] [4] A0 ?_
     refine Az [4] ?_
     refine Gi (by kernel_rfl) ?_
     refine Ag ?_
     refine RK wR [(.row 1 (((([] : List AV) ++ ((List.range (i - 0)).map (fun kx => ((.int .i64 (nth l (0 + kx))) : AV)))) ++ ([(.int .i64 n)] : List AV)) ++ ((List.range (l.length - i)).map (fun kx => ((.int .i64 (nth l (i + kx))) : AV)))).length (fun ix => (((([] : List AV) ++ ((List.range (i - 0)).map (fun kx => ((.int .i64 (nth l (0 + kx))) : AV)))) ++ ([(.int .i64 n)] : List AV)) ++ ((List.range (l.length - i)).map (fun kx => ((.int .i64 (nth l (i + kx))) : AV)))).getD ix Bm))] ?_
     simp only [Ak]
     exact Same.grown (f := AV.int .i64) (l := C7 n l) (by rw [f1_2, Rk (fun _ => by simp_all), Oj (AV.int .i64) (by omega), Ri (AV.int .i64) (by omega)]; simp [Em])
    ·refine Bb (fuel := 4) 6 [] A0 ?_
     refine Az [33, 36, 39, 43] ?_
     refine Cz (fuel := 3) 4 [] (hold (p := ((([] : List AV).length + (i - 0)) * 8 ≤ 140737488355328)) (by (simp; omega))) ?_
     refine Cz (fuel := 2) 7 [] (hold (p := (((([] : List AV) ++ ((List.range (i - 0)).map (fun kx => ((.int .i64 (nth l (0 + kx))) : AV)))).length + 1) * 8 ≤ 140737488355328)) (by (simp; omega))) ?_
     refine Cz (fuel := 1) 11 [] (hold (p := ((((([] : List AV) ++ ((List.range (i - 0)).map (fun kx => ((.int .i64 (nth l (0 + kx))) : AV)))) ++ ([(.int .i64 n)] : List AV)).length + (l.length - i)) * 8 ≤ 140737488355328)) (by (simp; omega))) ?_
     refine C0 (fuel := 0) [] [12] [4] A0 ?_
     refine Az [4] ?_
     refine Gi (by kernel_rfl) ?_
     refine Ag ?_
     refine RK wR [(.row 1 (((([] : List AV) ++ ((List.range (i - 0)).map (fun kx => ((.int .i64 (nth l (0 + kx))) : AV)))) ++ ([(.int .i64 n)] : List AV)) ++ ((List.range (l.length - i)).map (fun kx => ((.int .i64 (nth l (i + kx))) : AV)))).length (fun ix => (((([] : List AV) ++ ((List.range (i - 0)).map (fun kx => ((.int .i64 (nth l (0 + kx))) : AV)))) ++ ([(.int .i64 n)] : List AV)) ++ ((List.range (l.length - i)).map (fun kx => ((.int .i64 (nth l (i + kx))) : AV)))).getD ix Bm))] ?_
     simp only [Ak]
     exact Same.grown (f := AV.int .i64) (l := C7 n l) (by rw [f1_2, Rk (fun _ => by simp_all), Oj (AV.int .i64) (by omega), Ri (AV.int .i64) (by omega)]; simp [Em])
   ·refine Bb (fuel := 5) 6 [] A0 ?_
    refine Az [36, 39, 43] ?_
    refine Cz (fuel := 4) 0 [] A0 ?_
    refine Cz (fuel := 3) 4 [] (hold (p := ((([] : List AV).length + (i - 0)) * 8 ≤ 140737488355328)) (by (simp; omega))) ?_
    refine Cz (fuel := 2) 7 [] (hold (p := (((([] : List AV) ++ ((List.range (i - 0)).map (fun kx => ((.int .i64 (nth l (0 + kx))) : AV)))).length + 1) * 8 ≤ 140737488355328)) (by (simp; omega))) ?_
    refine Cz (fuel := 1) 11 [] (hold (p := ((((([] : List AV) ++ ((List.range (i - 0)).map (fun kx => ((.int .i64 (nth l (0 + kx))) : AV)))) ++ ([(.int .i64 n)] : List AV)).length + (l.length - i)) * 8 ≤ 140737488355328)) (by (simp; omega))) ?_
    refine C0 (fuel := 0) [] [12] [4] A0 ?_
    refine Az [4] ?_
    refine Gi (by kernel_rfl) ?_
    refine Ag ?_
    refine RK wR [(.row 1 (((([] : List AV) ++ ((List.range (i - 0)).map (fun kx => ((.int .i64 (nth l (0 + kx))) : AV)))) ++ ([(.int .i64 n)] : List AV)) ++ ((List.range (l.length - i)).map (fun kx => ((.int .i64 (nth l (i + kx))) : AV)))).length (fun ix => (((([] : List AV) ++ ((List.range (i - 0)).map (fun kx => ((.int .i64 (nth l (0 + kx))) : AV)))) ++ ([(.int .i64 n)] : List AV)) ++ ((List.range (l.length - i)).map (fun kx => ((.int .i64 (nth l (i + kx))) : AV)))).getD ix Bm))] ?_
    simp only [Ak]
    exact Same.grown (f := AV.int .i64) (l := C7 n l) (by rw [f1_2, Rk (fun _ => by simp_all), Oj (AV.int .i64) (by omega), Ri (AV.int .i64) (by omega)]; simp [Em])
theorem V1 (st : PoolT) (pl : List (Int × Int)) :
  FnV Tryz.prog 61 [(.fp (Jt st pl))] (.int .i64 ((pl.length : Int))) := by
 refine A4 [.tmp 2] Tryz.func61 rfl Tryz.ntmps61 rfl rfl (fun B F hF => ?_)
 refine Aa [] [0] ?_
 refine Aa [] [2] ?_
 refine Ag ?_
 refine RK wR [(.int .i64 ((pl.length : Int)))] ?_
 exact Same.of_eq (by first | rfl | (simp only [Ak]; simp_all))
theorem V2 (st : PoolT) (pl : List (Int × Int)) (raw : List Int) (hpl : pl.length ≤ 200) (hr : raw.length ≤ 4611686018426) (hb : ∀ i, i < raw.length → -9223372036854775808 ≤ nth raw i ∧ nth raw i ≤ 9223372036854775807) :
  FnV Tryz.prog 27 [(.fp (Jt st pl)), (Af raw)] (Af (Cf pl.length raw)) := by
 refine A4 [.tmp 4] Tryz.func27 rfl Tryz.ntmps27 rfl rfl (fun B F hF => ?_)
 refine Aa [] [0, 1] ?_
 refine Aa [] [0, 1, 5] ?_
 refine Ad ?_
 refine Ad ?_
 refine Ap ?_
 refine Fu 5 (Af []) (by kernel_rfl) Imp.nil ?_
 refine Fv [] [0, 1, 5, 6] ?_
 refine A1 ?_
 refine Bv (fun g y => ∃ (i : Nat), i ≤ raw.length ∧ (pl.length = 0 → i = 0) ∧ y = ⟨[(0, (.fp (Jt st pl))), (1, (Af raw)), (5, (Af (Gv pl.length (raw.take i)))), (6, (.int .i64 ((i : Int))))], [], 0⟩ ∧ g = raw.length - i) [0, 1, 5, 6] 0 _ (by omega) ⟨0, (by omega), (by exact fun _ => rfl), (by kernel_rfl), rfl⟩ ?_
 rintro g1 y1 ⟨i, f1_1, f1_2, rfl, rfl⟩
 refine Ad ?_
 obtain ⟨b1, hb1⟩ : ∃ b, b = (decide ((i : Int) < (raw.length : Int))) := ⟨_, rfl⟩
 refine Ah (CS := [(6, b1 = true → b1 = true), (7, (b1 = true → b1 = true)), (8, (b1 = true → b1 = true))]) [13, 15] [0, 1, 5, 6, 16] [] (hkg 6 b1 Z0 (fun cg => V1 st pl) <| hk0) (vk 5 12 (a := .bool (decide ((i : Int) < (raw.length : Int)))) (b := .bool b1) (Imp.of_eq (by rw [hb1])) <| v0) (by refine cc _ ?_ <| cc _ ?_ <| cc _ ?_ c0 <;> simp) ?_
 refine Bd (q := b1 && (decide (0 < (pl.length : Int)))) (by kernel_rfl) (fun c1 => ?_) (fun c1 => ?_)
 ·subst hb1
  try simp only [Ao] at c1
  have hbi := hb i (by omega)
  refine Ai ?_
  refine Ad ?_
  refine A1 ?_
  refine Ah [] [0, 1, 5, 6, 7] [] hk0 v0 (cc 2 (p := (0 ≤ (i : Int) ∧ i < raw.length)) (by omega) <| c0) ?_
  refine Dt (fun y => ∃ (v : Int), v = (if nth raw i < 0 then 0 - (nth raw i + 1) else nth raw i) ∧ y = ⟨[(0, (.fp (Jt st pl))), (1, (Af raw)), (5, (Af (Gv pl.length (raw.take i)))), (6, (.int .i64 ((i : Int)))), (7, (.int .i64 v))], [], 0⟩) [0, 1, 5, 6, 7] 0 (by omega) ?_ ?_
  ·refine Aa [] [0, 1, 5, 6, 7, 24] ?_
   refine A6 (p := (nth raw i) < 0) (by kernel_rfl) (fun c2 => ?_) (fun c2 => ?_)
   ·refine Ap ?_
    refine Av (CS := [(1, (-9223372036854775808 ≤ (nth raw i) + 1 ∧ (nth raw i) + 1 ≤ 9223372036854775807)), (2, (-9223372036854775808 ≤ 0 - ((nth raw i) + 1) ∧ 0 - ((nth raw i) + 1) ≤ 9223372036854775807))]) 0 [] [0, 1, 5, 6, 7] [] hk0 v0 (by refine cc _ ?_ <| cc _ ?_ c0 <;> omega) ?_
    refine ⟨by kernel_rfl, (0 - ((nth raw i) + 1)), ?_, (by kernel_rfl)⟩
    rw [if_pos c2]
   ·refine Ai ?_
    refine ⟨by kernel_rfl, (nth raw i), ?_, (by kernel_rfl)⟩
    rw [if_neg c2]
  ·rintro y1 ⟨v, jy, rfl⟩
   refine Ap ?_
   refine Av 0 [] [0, 1, 5, 6] [] (hk 3 Z0 (V1 st pl) <| hk 5 Q96 (Q5z (Gv pl.length (raw.take i)) (Int.tmod v (pl.length : Int)) (by have := Q2o pl.length (raw.take i); rw [List.length_take] at this; omega)) <| hk0) v0 (cc 4 (p := ((pl.length : Int) ≠ 0)) (by omega) <| c0) ?_
   refine Ap ?_
   refine Av 0 [] [0, 1, 5, 6] [] hk0 v0 (cc 1 (p := (-9223372036854775808 ≤ (i : Int) + 1 ∧ (i : Int) + 1 ≤ 9223372036854775807)) (by omega) <| c0) ?_
   refine ⟨by kernel_rfl, _, ?_, i + 1, ?_, ?_, (Eq.trans (b := (⟨[(0, (.fp (Jt st pl))), (1, (Af raw)), (5, (Af (C7 (Int.tmod v (pl.length : Int)) (Gv pl.length (raw.take i))))), (6, (.int .i64 ((i : Int) + 1)))], [], 0⟩ : St)) (by kernel_rfl) (by rw [show Int.tmod v (pl.length : Int) = idN pl.length (nth raw i) from by rw [jy]; rfl, ← X3l (by omega)] <;> kernel_rfl)), rfl⟩
   all_goals omega
 ·subst hb1
  try simp only [Ao] at c1
  refine Br ?_
  refine Aa [] [4] ?_
  refine Ag ?_
  refine RK wR [(Af (Gv pl.length (raw.take i)))] ?_
  refine Same.of_eq ?_
  simp only [Ak]
  unfold Cf
  by_cases h0 : pl.length = 0
  ·rw [if_pos h0, f1_2 h0]; rfl
  ·rw [if_neg h0, show i = raw.length from by omega, List.take_length]
end Sv
end Go.Proofs.YtlmloohlmlahfaaGreatDoor
end
section
namespace Go.Proofs.YtlmloohlmlahfaaGreatDoor
open Go Go.RowKit
namespace Sv
def Ug (st : PoolT) (pl : List (Int × Int)) : Prop := pl.length = st.all.length ∧ ∀ i, i < st.all.length → 0 ≤ (nth pl i).1 ∧ (nth pl i).1 < st.repos.length ∧ 0 ≤ (nth pl i).2 ∧ (nth pl i).2 < (nth st.repos (nth pl i).1.toNat).pkgs.length ∧
  nth (nth st.repos (nth pl i).1.toNat).pkgs (nth pl i).2.toNat = (nth st.all i).1 ∧ (nth pl i).1 = (nth st.all i).2
def Q3n (l : List RepoT) (st : PoolT) : Prop := ∀ q ∈ st.all, ∃ r ∈ l, q.1 ∈ r.pkgs
theorem Ry {α : Type} [Inhabited α] {l m : List α} {i : Nat} (h : i < l.length) : nth (l ++ m) i = nth l i := by
  simp only [nth]; rw [List.getElem?_append_left h]
theorem Rx {α : Type} [Inhabited α] {l m : List α} {i : Nat} (h : l.length ≤ i) : nth (l ++ m) i = nth m (i - l.length) := by
  simp only [nth]; rw [List.getElem?_append_right h]
theorem Q1p {k : Int} {l : List RepoT} {r : RepoT} : An k (l ++ [r]) = (Cd (An k l).1 r, En (An k l).2 (An k l).1 r) := by
  unfold An; rw [List.foldl_append]; rfl
theorem Ve {α : Type} {C : List α → Prop} (h0 : C []) (h : ∀ l a, C l → C (l ++ [a])) (l : List α) : C l := by
  rw [← List.reverse_reverse l]
  induction l.reverse with
  | nil => exact h0
  | cons a r ih => rw [List.reverse_cons]; exact h _ _ ih
theorem X2o (k : Int) : ∀ l : List RepoT, Q3n l (An k l).1 := by
  refine Ve (C := fun l => Q3n l (An k l).1) (fun q hq => by cases hq) fun l r ih => ?_
  rw [Q1p]
  intro q hq
  have old : q ∈ (An k l).1.all → ∃ r' ∈ l ++ [r], q.1 ∈ r'.pkgs := fun h => by
    obtain ⟨r', h1, h2⟩ := ih q h
    exact ⟨r', List.mem_append_left _ h1, h2⟩
  unfold Cd at hq
  split at hq
  · simp only [Ax, List.take_length] at hq
    rcases List.mem_append.1 hq with h | h
    · exact old h
    · obtain ⟨p, hp, rfl⟩ := List.mem_map.1 h
      exact ⟨r, by simp, hp⟩
  · exact old hq
theorem Q1r {k : Int} {l : List RepoT} (h : ∀ i, i < l.length → (nth l i).size ≤ 4194304) : IdxOk (An k l).1 := by
  refine ⟨(Q1q k l).2.1, fun i hi => ?_⟩
  obtain ⟨r, hr, hp⟩ := X2o k l (nth (An k l).1.all i) (by rw [Fk hi]; exact List.getElem_mem hi)
  obtain ⟨a, ha, rfl⟩ := List.getElem_of_mem hr
  obtain ⟨b, hb, e⟩ := List.getElem_of_mem hp
  have h1 := RepoT.size_pkg hb
  have h2 := h a ha
  rw [Fk ha] at h2
  rw [Fk hb, e] at h1
  omega
theorem X2p (k : Int) : ∀ l : List RepoT, Ug (An k l).1 (An k l).2 := by
  refine Ve (C := fun l => Ug (An k l).1 (An k l).2) ⟨rfl, fun i hi => by simp [An] at hi⟩ fun l r ih => ?_
  rw [Q1p]
  generalize (An k l).1 = st at ih
  generalize (An k l).2 = pl at ih
  show Ug (Cd st r) (En pl st r)
  by_cases he : Ch st r = 0
  · have e1 : Cd st r = ⟨st.kind, st.repos ++ [r], Ax st r r.pkgs.length⟩ := if_pos he
    have e2 : En pl st r = Cu pl st r r.pkgs.length := if_pos he
    rw [e1, e2]
    have hl : (Ax st r r.pkgs.length).length = st.all.length + r.pkgs.length := by simp [Ax]
    have hl2 : (Cu pl st r r.pkgs.length).length = pl.length + r.pkgs.length := by simp [Cu]
    refine ⟨by show (Cu pl st r r.pkgs.length).length = (Ax st r r.pkgs.length).length; rw [hl, hl2, ih.1], fun i hi => ?_⟩
    have hi : i < (Ax st r r.pkgs.length).length := hi
    rw [hl] at hi
    show 0 ≤ (nth (Cu pl st r r.pkgs.length) i).1 ∧ (nth (Cu pl st r r.pkgs.length) i).1 < ((st.repos ++ [r]).length : Int) ∧ 0 ≤ (nth (Cu pl st r r.pkgs.length) i).2 ∧ (nth (Cu pl st r r.pkgs.length) i).2 < ((nth (st.repos ++ [r]) (nth (Cu pl st r r.pkgs.length) i).1.toNat).pkgs.length : Int) ∧ nth (nth (st.repos ++ [r]) (nth (Cu pl st r r.pkgs.length) i).1.toNat).pkgs (nth (Cu pl st r r.pkgs.length) i).2.toNat = (nth (Ax st r r.pkgs.length) i).1 ∧ (nth (Cu pl st r r.pkgs.length) i).1 = (nth (Ax st r r.pkgs.length) i).2
    unfold Cu Ax
    by_cases h : i < st.all.length
    · have k := ih.2 i h
      rw [Ry (l := pl) (by rw [ih.1]; exact h), Ry (l := st.all) h, Ry (l := st.repos) (by omega)]
      exact ⟨k.1, by rw [List.length_append]; omega, k.2.2.1, k.2.2.2.1, k.2.2.2.2.1, k.2.2.2.2.2⟩
    · obtain ⟨j, rfl⟩ : ∃ j, i = st.all.length + j := ⟨i - st.all.length, by omega⟩
      have hj : j < r.pkgs.length := by omega
      rw [Rx (l := pl) (by rw [ih.1]; omega), Rx (l := st.all) (by omega), show st.all.length + j - pl.length = j by rw [ih.1]; omega, show st.all.length + j - st.all.length = j by omega, List.take_length]
      have a1 : nth ((List.range r.pkgs.length).map fun (k : Nat) => ((st.repos.length : Int), (k : Int))) j = ((st.repos.length : Int), (j : Int)) := by simp [nth, hj]
      have a2 : nth (r.pkgs.map fun p => (p, (st.repos.length : Int))) j = (nth r.pkgs j, (st.repos.length : Int)) := by simp [nth, hj]
      rw [a1, a2]
      have a3 : nth (st.repos ++ [r]) ((st.repos.length : Int)).toNat = r := by rw [Rx (by simp)]; simp [nth]
      refine ⟨Int.natCast_nonneg _, by rw [List.length_append, List.length_singleton]; show (st.repos.length : Int) < _; omega, Int.natCast_nonneg _, ?_, ?_, rfl⟩
      · show (j : Int) < ((nth (st.repos ++ [r]) ((st.repos.length : Int)).toNat).pkgs.length : Int)
        rw [a3]; omega
      · show nth (nth (st.repos ++ [r]) ((st.repos.length : Int)).toNat).pkgs ((j : Int)).toNat = nth r.pkgs j
        rw [a3]; rfl
  · have e1 : Cd st r = st := if_neg he
    have e2 : En pl st r = pl := if_neg he
    rw [e1, e2]; exact ih
end Sv
end Go.Proofs.YtlmloohlmlahfaaGreatDoor
end
section
namespace Go.Proofs.YtlmloohlmlahfaaGreatDoor
open Go Go.RowKit
namespace Sv
attribute [local irreducible] SW SO Bn
set_option maxHeartbeats 400000
set_option maxRecDepth 100000
end Sv
end Go.Proofs.YtlmloohlmlahfaaGreatDoor
end
section
namespace Go.Proofs.YtlmloohlmlahfaaGreatDoor
open Go Go.RowKit
namespace Sv
abbrev Q3h := Int → Int → List UInt8 → Int → List UInt8 → Bool × Int
section
variable {m : Q3h} {st : PoolT} {s : List Int}
end
section
variable {m : Q3h} {st : PoolT} {s : List Int}
end
end Sv
end Go.Proofs.YtlmloohlmlahfaaGreatDoor
end
section
namespace Go.Proofs.YtlmloohlmlahfaaGreatDoor
open Go Go.RowKit
set_option linter.unusedSimpArgs false
set_option linter.unusedVariables false
namespace Sv
def Cn (l : List Int) : List Int := l.mergeSort fun x y => decide (x ≤ y)
theorem Q4g : FnV Tryz.prog 130 [.nils] (.tup []) := by
  intro F w vs hF hv
  obtain ⟨v, rfl, h1⟩ := hv.single_inv
  simp only [VR] at h1; subst h1
  refine (Go.Proofs.Any.slices_Sort_int_none Tryz.lays189 none 0 w).mono ?_
  rintro e w' ⟨he, rfl⟩
  exact ⟨_, he, Below.refl _ _, F, fun _ _ e => e, hF, fun _ _ e => .inl e, by simp only [VR]; exact ⟨[], .nil, rfl⟩⟩
theorem X16 : FnV Tryz.prog 123 [.nils] .nils := by
  intro F w vs hF hv
  obtain ⟨v, rfl, h1⟩ := hv.single_inv
  simp only [VR] at h1; subst h1
  refine (Tryz.slices_Compact_int_empty none 0 w).mono ?_
  rintro e w' ⟨he, rfl⟩
  exact ⟨_, he, Below.refl _ _, F, fun _ _ e => e, hF, fun _ _ e => .inl e, by simp only [VR]⟩
def Cj (l : List Int) : List Int := Lib.compact (Cn l)
theorem Vd (l : List Int) : (Cn l).length = l.length := by simp [Cn]
theorem H5 (l : List Int) : (Cj l).length ≤ l.length := by have := Tp (Cn l); rw [Vd] at this; exact this
def Uj (P : Program) (f : Nat) (es es' : List AV) (e sz : Nat) : Prop := ∀ (B : Bas) (φ : Phi) (h : AH) (w : World) (b : Nat) (v : Value), Rel B φ h w → Bg b h = some (.grow es e sz) → φ.s b = some v →
  Calls P f #[v] w (Ret fun u w' => u = .tuple #[] ∧ Rel B φ (Ca b (.grow es' e sz) (D6 b h)) w')
theorem X4c {P : Program} {B : Bas} {F : Cx} {n : Nat} {K : Exit → St → Prop} {x : St} {ops : Array Oper} {rest : List Oper} {f : FuncId} {ar : Array Operand} {ts : Array TypeId} {ty : TypeId} {ps : String} {dst : Option Tmp} {s' : Fr} {af : Array Edge} {g : Option (Nat × Bool)} {b e sz : Nat} {es es' : List AV}
    (hg : C8 ops x.s g = true) (he : Au P f) (ha : D0 (evA x.s) ar.toList = some [.own b]) (hb : Bg b x.h = some (.grow es e sz)) (hf : Uj P f es es' e sz)
    (hp : B3 n dst (.tup []) x.s = some s') (next : SO P n ops rest B F K ⟨s', Ca b (.grow es' e sz) (D6 b x.h), x.nx⟩) : SO P n ops (⟨dst, .call { callee := .value (.func f), args := ar, argTypes := ts }, ty, ps, af, g⟩ :: rest) B F K x := by
  intro φ σ w hx
  have hv := Fb hx.fr.ev ha
  obtain ⟨v, hv0, hv1⟩ := hv.single_inv
  simp only [VR] at hv1
  have hc := hf B φ x.h w b v hx.rel hb hv1.1
  refine Ft (C4 hx.fr hg) he (by rw [hv0]; exact hc) ?_
  rintro u w' ⟨rfl, hr⟩
  exact next φ _ w' ⟨hx.fr.put hp (by simp only [VR]; exact ⟨[], .nil, rfl⟩), hr, hx.dom, hx.old, hx.new, hx.base⟩
theorem Q4h (l : List Int) (hl : l.length ≤ 4611686018427) : Uj Tryz.prog 130 (l.map (AV.int .i64)) ((Cn l).map (AV.int .i64)) 3 1 := by
  intro B φ h w b v hr hb hv1
  have hob := hr.obj b _ hb
  obtain ⟨v0, us, q1, q2, q3, q4⟩ := hob
  rw [hv1] at q1; cases q1
  have hu := Se q3
  subst hu
  rw [Pg, List.length_map] at q2
  have ht : Turn φ φ b := ⟨fun _ => rfl, fun _ _ => rfl, fun _ _ e => e⟩
  rcases q2.2 with ⟨rfl, hn⟩ | ⟨g, cap, cur, rfl, hg1, hg2, hg3, hg4, hg5, hg6⟩
  · have hl0 : l = [] := List.length_eq_zero_iff.1 hn
    subst hl0
    refine (Go.Proofs.Any.slices_Sort_int_none Tryz.lays189 none 0 w).mono ?_
    rintro e w' ⟨he, rfl⟩
    exact ⟨_, he, rfl, Rel.grown hr hb hv1 ht hv1 rfl ⟨rfl, rfl, rfl, Nat.le_refl _, fun _ _ _ => rfl⟩ (.inl rfl) (fun k hk => by cases hk) (by have := hr.obj b _ hb; simpa [Cn] using this)⟩
  · have hh : Go.Sort.Holds (Value.int .i64) w g 0 l.toArray := holds_of_blockI hg2 (by simpa using hg6)
    refine (Tryz.slices_Sort_int g 0 cap l w hh (Ez hg2) (by omega)).mono ?_
    rintro e w' ⟨he, n, os, rfl⟩
    have hgr := grownBy_sortedI (w := w) (g := g) (n := n) (os := os) (Cn l).toArray
    exact ⟨_, he, rfl, Rel.grown (es' := (Cn l).map (AV.int .i64)) hr hb hv1 ht hv1 rfl hgr (.inl rfl) (fun k hk => by cases hk; exact Nat.lt_of_lt_of_le (Ez hg2) hgr.size)
      ⟨_, (Cn l).map (Value.int .i64), hv1, by
        rw [Pg, List.length_map]
        have := ownsRow_sortedI (n := n) (os := os) (base := 0) (ts := Cn l) (ss := l) (by simp [Cn]) hg1 hg2 hg3 hg4 (by simpa using hg5)
        rw [show (Cn l).length = l.length by simp [Cn]]
        exact this, Qo _, Q1g _⟩⟩
end Sv
end Go.Proofs.YtlmloohlmlahfaaGreatDoor
end
section
namespace Go.Proofs.YtlmloohlmlahfaaGreatDoor
open Go Go.RowKit
namespace Sv
attribute [local irreducible] SW SO Bn
set_option maxHeartbeats 400000
set_option maxRecDepth 100000
theorem X06 : Au Tryz.prog 129 := Ay Tryz.func129 (by kernel_rfl) rfl
theorem Q0r : Au Tryz.prog 130 := Ay Tryz.func130 (by kernel_rfl) rfl
theorem Pd (l : List Int) (hl : l.length ≤ 4611686018) :
  FnV Tryz.prog 66 [(Af l)] (Af (Cj l)) := by
 refine A4 [.tmp 2] Tryz.func66 rfl Tryz.ntmps66 rfl rfl (fun B F hF => ?_)
 refine Aa [] [0] ?_
 refine Ad ?_
 refine Ap ?_
 refine Bq 1 0 [] [4] [] hk0 v0 c0 ?_
 refine Jl [.tmp 2] (al := [(Af l)]) (s0 := [(4, (Af l))]) (by kernel_rfl) (by exact X06) (by kernel_rfl) Tryz.func129 rfl Tryz.ntmps129 rfl (by kernel_rfl) (by kernel_rfl) (fun F1 hF1 hle1 => ?_)
 refine Aa [] [0] ?_
 refine Ad ?_
 refine Ad ?_
 refine Ap ?_
 refine Bq 1 0 [] [0, 3] [] hk0 v0 c0 ?_
 refine Qj (G := I0 (Af l)) (sz := 1) (m := l.length) (e := 3) (by kernel_rfl) (by kernel_rfl) (by kernel_rfl) (by kernel_rfl) (fun nq1_1 => ⟨[(0, (Af l)), (3, (Af l)), (4, (.bool nq1_1))], by kernel_rfl, fun hnq1_1 => ?_⟩)
 refine Bx ?_
 refine Bd (q := nq1_1) (by kernel_rfl) (fun c1 => ?_) (fun c1 => ?_)
 ·try simp only [Ao] at c1
  refine Aa [] [2] ?_
  refine Ag ?_
  refine Gp (.inl rfl) (al := [.nils]) (s' := [(4, (Af l)), (5, .nils)]) (by kernel_rfl) (by kernel_rfl) ?_
  refine Av 2 [] [3] [] hk0 v0 c0 ?_
  refine Ah [] [3] [] (hk 1 Q0r Q4g <| hk0) v0 c0 ?_
  refine Ah [] [2] [] (hk 1 Tc X16 <| hk0) v0 c0 ?_
  refine Ag ?_
  refine RK wR [.nils] ?_
  simp only [Ak]
  have h0 : l = [] := List.length_eq_zero_iff.1 (by have := hnq1_1 (by simp_all); simp_all)
  subst h0
  rw [show Cj [] = [] from List.length_eq_zero_iff.1 (Nat.le_zero.1 (H5 []))]
  exact (Imp.nil (f := AV.int .i64)).same
 ·try simp only [Ao] at c1
  refine Ai ?_
  refine Ah [] [2] [] hk0 v0 (cc 2 (p := ((([] : List AV).length + l.length) * 8 ≤ 140737488355328)) (by (simp; omega)) <| c0) ?_
  refine Ag ?_
  refine Gp (.inl rfl) (al := [(.own 1)]) (s' := [(4, (Af l)), (5, (.own 1))]) (by kernel_rfl) (by kernel_rfl) ?_
  refine Av 2 [] [3] [] hk0 v0 c0 ?_
  refine Ad ?_
  refine Ap ?_
  refine Bq 1 0 [] [3, 6] [] hk0 v0 c0 ?_
  refine X4c (s' := [(3, (.own 1)), (6, (.own 1)), (7, (.tup []))]) (b := 1) (e := 3) (sz := 1) (es := ([] : List AV) ++ ((List.range l.length).map (fun kx => ((.int .i64 (nth l kx)) : AV)))) (es' := ((Cn l).map (AV.int .i64))) (by kernel_rfl) (by exact Q0r) (by kernel_rfl) (by kernel_rfl) ((show Uj _ _ (([] : List AV) ++ ((List.range l.length).map (fun kx => ((.int .i64 (nth l kx)) : AV)))) _ _ _ from (show l.map (AV.int .i64) = (([] : List AV) ++ ((List.range l.length).map (fun kx => ((.int .i64 (nth l kx)) : AV)))) from by simp [K3]) ▸ Q4h l (by omega))) (by kernel_rfl) ?_
  refine Bx ?_
  refine Ad ?_
  refine Ap ?_
  refine Bq 1 0 [] [8] [] hk0 v0 c0 ?_
  refine L6 [1] (al := [(.own 1)]) (al' := [(.own 0)]) (r := (.own 0)) (r' := (.own 1)) (s' := [(8, Bm), (9, (.own 1))]) (H := [(0, (.grow ((Cn l).map (AV.int .i64)) 3 1))]) (H' := [(0, (.grow ((Lib.compact (Cn l)).map (AV.int .i64)) 3 1))]) (h2 := [(1, (.grow ((Lib.compact (Cn l)).map (AV.int .i64)) 3 1))]) (by kernel_rfl) (by exact Tc) (by kernel_rfl) (by kernel_rfl) (by kernel_rfl) (by kernel_rfl) (by kernel_rfl) (Q1c (Cn l) (by rw [Vd]; omega)) (by kernel_rfl) (by kernel_rfl) (by kernel_rfl) ?_
  refine Av 2 [] [2] [] hk0 v0 c0 ?_
  refine Ag ?_
  refine RK wR [(.row 1 ((Lib.compact (Cn l)).map (AV.int .i64)).length (fun ix => ((Lib.compact (Cn l)).map (AV.int .i64)).getD ix Bm))] ?_
  simp only [Ak]
  exact Same.grown (f := AV.int .i64) (l := Cj l) rfl
end Sv
end Go.Proofs.YtlmloohlmlahfaaGreatDoor
end
section
namespace Go.Proofs.YtlmloohlmlahfaaGreatDoor
open Go Go.RowKit
namespace Sv
theorem Rd : ∀ {a b : List Int}, Cr a → Cr b → (∀ x, x ∈ a ↔ x ∈ b) → a = b
  | [], [], _, _, _ => rfl
  | [], y :: b, _, _, h => by have := (h y).2 (by simp); cases this
  | x :: a, [], _, _, h => by have := (h x).1 (by simp); cases this
  | x :: a, y :: b, ha, hb, h => by
    have e : x = y := by
      rcases List.mem_cons.1 ((h x).1 (by simp)) with e | e
      · exact e
      · rcases List.mem_cons.1 ((h y).2 (by simp)) with e' | e'
        · exact e'.symm
        · have h1 := hb.1 x e
          have h2 := ha.1 y e'
          omega
    subst e
    rw [Rd ha.2 hb.2 fun z => ?_]
    constructor
    · intro hz
      rcases List.mem_cons.1 ((h z).1 (by simp [hz])) with e | e
      · subst e; have := ha.1 z hz; omega
      · exact e
    · intro hz
      rcases List.mem_cons.1 ((h z).2 (by simp [hz])) with e | e
      · subst e; have := hb.1 z hz; omega
      · exact e
theorem Vq {x : Int} : ∀ {l : List Int}, Cr l → (∀ y ∈ l, y < x) → Cr (l ++ [x])
  | [], _, _ => ⟨by simp, trivial⟩
  | z :: l, h, k => ⟨fun y hy => by
      rcases List.mem_append.1 hy with hy | hy
      · exact h.1 y hy
      · rw [List.mem_singleton] at hy; subst hy; exact k z (by simp), Vq h.2 fun y hy => k y (by simp [hy])⟩
theorem Q1b (d : Array Int) (h : ∀ i, i + 1 < d.size → d[i]! ≤ d[i + 1]!) : ∀ m, m ≤ d.size → Cr (Lib.compactUpTo d m) ∧ (∀ x, x ∈ Lib.compactUpTo d m ↔ ∃ i, i < m ∧ x = d[i]!) ∧ ∀ x ∈ Lib.compactUpTo d m, x ≤ d[m - 1]! := by
  intro m
  induction m with
  | zero => intro _; exact ⟨trivial, fun x => by simp [Lib.compactUpTo], fun x hx => by simp [Lib.compactUpTo] at hx⟩
  | succ m ih =>
    intro hm
    obtain ⟨i1, i2, i3⟩ := ih (by omega)
    have mono : ∀ x ∈ Lib.compactUpTo d m, x ≤ d[m]! := fun x hx => by
      have h1 := i3 x hx
      by_cases h0 : m = 0
      · subst h0; simp [Lib.compactUpTo] at hx
      · have := h (m - 1) (by omega)
        rw [show m - 1 + 1 = m by omega] at this; omega
    rw [Lib.compactUpTo_succ]
    by_cases hk : Lib.keeps d m = true
    · rw [if_pos hk]
      refine ⟨Vq i1 fun y hy => ?_, fun x => ?_, fun x hx => ?_⟩
      · have h1 := mono y hy
        have h2 := i3 y hy
        by_cases h0 : m = 0
        · subst h0; simp [Lib.compactUpTo] at hy
        · have h3 := h (m - 1) (by omega)
          rw [show m - 1 + 1 = m by omega] at h3
          have h4 : d[m]! ≠ d[m - 1]! := by
            simp only [Lib.keeps, decide_eq_true_eq] at hk
            rcases hk with hk | hk
            · exact absurd hk h0
            · exact hk
          omega
      · rw [List.mem_append, i2, List.mem_singleton]
        constructor
        · rintro (⟨i, hi, rfl⟩ | rfl)
          · exact ⟨i, by omega, rfl⟩
          · exact ⟨m, by omega, rfl⟩
        · rintro ⟨i, hi, rfl⟩
          by_cases e : i = m
          · subst e; exact .inr rfl
          · exact .inl ⟨i, by omega, rfl⟩
      · rw [Nat.add_sub_cancel]
        rcases List.mem_append.1 hx with hx | hx
        · exact mono x hx
        · rw [List.mem_singleton] at hx; subst hx; exact Int.le_refl _
    · rw [if_neg hk, List.append_nil]
      have hk' : ¬ m = 0 ∧ d[m]! = d[m - 1]! := by
        simp only [Lib.keeps, decide_eq_true_eq, not_or, ne_eq, Decidable.not_not] at hk
        exact hk
      refine ⟨i1, fun x => ?_, fun x hx => ?_⟩
      · rw [i2]
        constructor
        · rintro ⟨i, hi, rfl⟩
          exact ⟨i, by omega, rfl⟩
        · rintro ⟨i, hi, rfl⟩
          by_cases e : i = m
          · subst e; exact ⟨i - 1, by omega, hk'.2⟩
          · exact ⟨i, by omega, rfl⟩
      · rw [Nat.add_sub_cancel]; exact mono x hx
theorem Vc (l : List Int) (i : Nat) (h : i + 1 < (Cn l).toArray.size) : (Cn l).toArray[i]! ≤ (Cn l).toArray[i + 1]! := by
  have p : (Cn l).Pairwise fun x y => decide (x ≤ y) = true := List.pairwise_mergeSort (fun a b c h1 h2 => by simp only [decide_eq_true_eq] at *; omega) (fun a b => by simp only [Bool.or_eq_true, decide_eq_true_eq]; omega) l
  have h' : i + 1 < (Cn l).length := by simpa using h
  have := List.pairwise_iff_getElem.1 p i (i + 1) (by omega) h' (by omega)
  simpa [getElem!_pos, h', show i < (Cn l).length by omega] using this
theorem Ix (l : List Int) : Cr (Cj l) := (Q1b (Cn l).toArray (Vc l) (Cn l).length (by simp)).1
theorem Ml {l : List Int} {x : Int} : x ∈ Cj l ↔ x ∈ l := by
  have h := (Q1b (Cn l).toArray (Vc l) (Cn l).length (by simp)).2.1 x
  have e : x ∈ Cj l ↔ x ∈ Lib.compactUpTo (Cn l).toArray (Cn l).length := Iff.rfl
  rw [e, h]
  have m : x ∈ Cn l ↔ x ∈ l := by unfold Cn; exact List.mem_mergeSort
  rw [← m]
  constructor
  · rintro ⟨i, hi, rfl⟩
    simp [getElem!_pos, hi]
  · intro hx
    obtain ⟨i, hi, rfl⟩ := List.getElem_of_mem hx
    exact ⟨i, hi, by simp [getElem!_pos, hi]⟩
theorem Mk {l k : List Int} (hk : Cr k) (h : ∀ x, x ∈ k ↔ x ∈ l) : k = Cj l := Rd hk (Ix l) fun x => by rw [h, Ml]
theorem Q5 {l : List Int} (h : Cr l) : Cj l = l := (Mk h fun _ => Iff.rfl).symm
theorem Q4r : Cj [] = [] := Q5 trivial
def B1 (x y : List Int) : Bool := decide (y = []) || (!decide (x = []) && decide (nth x 0 ≤ nth y 0))
def D3 (p : Bool → Bool → Bool) : Nat → List Int → List Int → List Int
  | 0, _, _ => []
  | n + 1, x, y => if x = [] ∧ y = [] then [] else
    (if p (B1 x y) (B1 y x) then [if B1 y x = true then nth y 0 else nth x 0] else []) ++ D3 p n (if B1 x y = true then x.drop 1 else x) (if B1 y x = true then y.drop 1 else y)
theorem Q7v {q : Bool} {h : Int} {r : List Int} (hr : Cr r) (hl : ∀ z ∈ r, h < z) : Cr ((if q = true then [h] else []) ++ r) := by
  cases q
  · exact hr
  · exact ⟨hl, hr⟩
theorem Q7x {p : Bool → Bool → Bool} {u v : Bool} {h : Int} {x y x1 y1 r : List Int} (hx : ∀ z, z ∈ x ↔ (u = true ∧ z = h) ∨ z ∈ x1) (hy : ∀ z, z ∈ y ↔ (v = true ∧ z = h) ∨ z ∈ y1) (h1 : ∀ z ∈ x1, h < z) (h2 : ∀ z ∈ y1, h < z) (huv : u = true ∨ v = true)
    (hr : ∀ z, z ∈ r ↔ (z ∈ x1 ∨ z ∈ y1) ∧ p (decide (z ∈ x1)) (decide (z ∈ y1)) = true) (z : Int) : z ∈ (if p u v = true then [h] else []) ++ r ↔ (z ∈ x ∨ z ∈ y) ∧ p (decide (z ∈ x)) (decide (z ∈ y)) = true := by
  rw [List.mem_append, hr]
  by_cases e : z = h
  · subst e
    have n1 : ¬ z ∈ x1 := fun q => by have := h1 z q; omega
    have n2 : ¬ z ∈ y1 := fun q => by have := h2 z q; omega
    have e1 : decide (z ∈ x) = u := by have := hx z; cases u <;> simp_all
    have e2 : decide (z ∈ y) = v := by have := hy z; cases v <;> simp_all
    rw [e1, e2]
    have hm : z ∈ x ∨ z ∈ y := by
      rcases huv with q | q
      · exact .inl ((hx z).2 (.inl ⟨q, rfl⟩))
      · exact .inr ((hy z).2 (.inl ⟨q, rfl⟩))
    by_cases q : p u v = true
    · simp [q, hm]
    · simp [q, n1, n2]
  · have e1 : z ∈ x ↔ z ∈ x1 := by rw [hx]; simp [e]
    have e2 : z ∈ y ↔ z ∈ y1 := by rw [hy]; simp [e]
    have n : ¬ z ∈ (if p u v = true then [h] else []) := by split <;> simp [e]
    simp only [e1, e2, n, false_or]
theorem X5 {p : Bool → Bool → Bool} : ∀ (n : Nat) (x y : List Int), x.length + y.length < n → Cr x → Cr y → Cr (D3 p n x y) ∧ ∀ z, z ∈ D3 p n x y ↔ (z ∈ x ∨ z ∈ y) ∧ p (decide (z ∈ x)) (decide (z ∈ y)) = true := by
  intro n
  induction n with
  | zero => intro x y h; omega
  | succ n ih =>
    intro x y h hx hy
    have go : ∀ (u v : Bool) (a : Int) (x1 y1 : List Int), x1.length + y1.length < n → Cr x1 → Cr y1 → (∀ z, z ∈ x ↔ (u = true ∧ z = a) ∨ z ∈ x1) → (∀ z, z ∈ y ↔ (v = true ∧ z = a) ∨ z ∈ y1) → (∀ z ∈ x1, a < z) → (∀ z ∈ y1, a < z) → (u = true ∨ v = true) →
        D3 p (n + 1) x y = (if p u v = true then [a] else []) ++ D3 p n x1 y1 → Cr (D3 p (n + 1) x y) ∧ ∀ z, z ∈ D3 p (n + 1) x y ↔ (z ∈ x ∨ z ∈ y) ∧ p (decide (z ∈ x)) (decide (z ∈ y)) = true := by
      intro u v a x1 y1 hl r1 r2 q1 q2 q3 q4 q5 e
      obtain ⟨i1, i2⟩ := ih x1 y1 hl r1 r2
      rw [e]
      refine ⟨Q7v i1 fun z hz => ?_, Q7x q1 q2 q3 q4 q5 i2⟩
      rcases ((i2 z).1 hz).1 with k | k
      · exact q3 z k
      · exact q4 z k
    cases x with
    | nil =>
      cases y with
      | nil => exact ⟨trivial, fun z => by simp [D3]⟩
      | cons b y => exact go false true b [] y (by simp at h ⊢; omega) trivial hy.2 (by simp) (by simp) (by simp) hy.1 (.inr rfl) (by simp [D3, B1, nth])
    | cons a x =>
      cases y with
      | nil => exact go true false a x [] (by simp at h ⊢; omega) hx.2 trivial (by simp) (by simp) hx.1 (by simp) (.inl rfl) (by simp [D3, B1, nth])
      | cons b y =>
        simp only [List.length_cons] at h
        rcases Int.lt_trichotomy a b with q | q | q
        · exact go true false a x (b :: y) (by simp; omega) hx.2 hy (by simp) (by simp) hx.1 (fun z hz => by
            rcases List.mem_cons.1 hz with rfl | hz
            · exact q
            · have := hy.1 z hz; omega) (.inl rfl) (by simp [D3, B1, nth, show a ≤ b by omega, show ¬ b ≤ a by omega])
        · subst q
          exact go true true a x y (by omega) hx.2 hy.2 (by simp) (by simp) hx.1 hy.1 (.inl rfl) (by simp [D3, B1, nth])
        · exact go false true b (a :: x) y (by simp; omega) hx hy.2 (by simp) (by simp) (fun z hz => by
            rcases List.mem_cons.1 hz with rfl | hz
            · exact q
            · have := hx.1 z hz; omega) hy.1 (.inr rfl) (by simp [D3, B1, nth, show ¬ a ≤ b by omega, show b ≤ a by omega])
def Jz (p : Bool → Bool → Bool) (a b : List Int) : List Int := D3 p ((Cj a).length + (Cj b).length + 1) (Cj a) (Cj b)
theorem X7 {p : Bool → Bool → Bool} {a b : List Int} {z : Int} : z ∈ Jz p a b ↔ (z ∈ a ∨ z ∈ b) ∧ p (decide (z ∈ a)) (decide (z ∈ b)) = true := by
  have := (X5 (p := p) _ (Cj a) (Cj b) (Nat.lt_succ_self _) (Ix a) (Ix b)).2 z
  simp only [Ml] at this
  exact this
theorem X6 {p : Bool → Bool → Bool} {a b : List Int} : Cr (Jz p a b) := (X5 _ (Cj a) (Cj b) (Nat.lt_succ_self _) (Ix a) (Ix b)).1
def Ae (a b : List Int) : List Int := Cj (a.filter fun z => !decide (z ∈ b))
def Aw (a b : List Int) : List Int := Cj (a ++ b)
theorem Q7k (a b : List Int) : Jz (fun _ v => !v) a b = Ae a b := Mk X6 fun z => by rw [X7, List.mem_filter]; simp only [Bool.not_eq_true', decide_eq_false_iff_not]; exact ⟨fun h => ⟨h.1.resolve_right h.2, h.2⟩, fun h => ⟨.inl h.1, h.2⟩⟩
theorem Q3y (a b : List Int) : Jz (fun _ _ => true) a b = Aw a b := Mk X6 fun z => by rw [X7, List.mem_append]; simp
theorem minusZ_mem {a b : List Int} {z : Int} : z ∈ Ae a b ↔ z ∈ a ∧ ¬ z ∈ b := by unfold Ae; rw [Ml, List.mem_filter]; simp
theorem unionZ_mem {a b : List Int} {z : Int} : z ∈ Aw a b ↔ z ∈ a ∨ z ∈ b := by unfold Aw; rw [Ml, List.mem_append]
theorem I4 (a b : List Int) : Cr (Ae a b) := Ix _
theorem N0 (a b : List Int) : Cr (Aw a b) := Ix _
end Sv
end Go.Proofs.YtlmloohlmlahfaaGreatDoor
end
section
namespace Go.Proofs.YtlmloohlmlahfaaGreatDoor
open Go Go.RowKit
namespace Sv
attribute [local irreducible] SW SO Bn
set_option maxHeartbeats 400000
set_option maxRecDepth 100000
theorem X0l : Au Tryz.prog 17 := Ay Tryz.func17 (by kernel_rfl) rfl
theorem Q40 {a b : List Int} (hl : a.length = b.length) (h : ∀ j, j < a.length → nth a j = nth b j) : decide (a = b) = true := decide_eq_true (List.ext_getElem hl fun j h1 h2 => by
 have := h j h1
 rwa [Fk h1, Fk h2] at this)
theorem Q41 {a b : List Int} {i : Nat} (h : ¬ nth a i = nth b i) : decide (a = b) = false := decide_eq_false fun e => h (by rw [e])
theorem Q42 {a b : List Int} (h : ¬ a.length = b.length) : decide (a = b) = false := decide_eq_false fun e => h (by rw [e])
theorem Q5u (a b : List Int) (ha : a.length ≤ 4611686018427) :
  FnV Tryz.prog 17 [(Af a), (Af b)] (.bool (decide (a = b))) := by
 refine A4 [.tmp 4] Tryz.func17 rfl Tryz.ntmps17 rfl rfl (fun B F hF => ?_)
 refine Aa [] [0, 1] ?_
 refine Ad ?_
 refine Aa [] [0, 1, 10] ?_
 refine Da (p := (a.length : Int) = (b.length : Int)) (by kernel_rfl) (fun c1 => ?_) (fun c1 => ?_)
 ·refine Aa [] [4] ?_
  refine Ag ?_
  refine RK wR [(.bool false)] ?_
  exact Same.of_eq (by rw [Q42 (by omega)]; rfl)
 ·refine Ai ?_
  refine Ad ?_
  refine Aa [] [0, 1, 5] ?_
  refine A1 ?_
  refine Bv (fun g y => ∃ (i : Nat), i ≤ a.length ∧ (∀ j, j < i → nth a j = nth b j) ∧ y = ⟨[(0, (Af a)), (1, (Af b)), (5, (.int .i64 ((i : Int))))], [], 0⟩ ∧ g = a.length - i) [0, 1, 5] 0 _ (by omega) ⟨0, (by omega), (by exact fun j hj => by omega), (by kernel_rfl), rfl⟩ ?_
  rintro g1 y1 ⟨i, f1_1, f1_2, rfl, rfl⟩
  refine Ad ?_
  refine Aa [] [0, 1, 5, 14] ?_
  refine A6 (p := (i : Int) < (a.length : Int)) (by kernel_rfl) (fun c2 => ?_) (fun c2 => ?_)
  ·refine Ai ?_
   refine Ad ?_
   refine A1 ?_
   refine Cq (CS := [(2, (0 ≤ (i : Int) ∧ i < a.length)), (6, (0 ≤ (i : Int) ∧ i < b.length))]) [] [0, 1, 5, 25] [] hk0 v0 (by refine cc _ ?_ <| cc _ ?_ c0 <;> omega) ?_
   refine Da (p := (nth a i) = (nth b i)) (by kernel_rfl) (fun c3 => ?_) (fun c3 => ?_)
   ·refine Aa [] [4] ?_
    refine Ag ?_
    refine RK wR [(.bool false)] ?_
    exact Same.of_eq (by rw [Q41 (i := i) (by simp_all)]; rfl)
   ·refine Ai ?_
    refine Ap ?_
    refine Av 0 [] [0, 1, 5] [] hk0 v0 (cc 1 (p := (-9223372036854775808 ≤ (i : Int) + 1 ∧ (i : Int) + 1 ≤ 9223372036854775807)) (by omega) <| c0) ?_
    refine ⟨by kernel_rfl, _, ?_, i + 1, ?_, ?_, (by kernel_rfl), rfl⟩
    ·omega
    ·omega
    ·intro j hj
     by_cases h : j = i
     ·subst h; simp_all
     ·exact f1_2 j (by omega)
  ·refine Br ?_
   refine Aa [] [4] ?_
   refine Ag ?_
   refine RK wR [(.bool true)] ?_
   exact Same.of_eq (by rw [Q40 (by omega) (fun j hj => f1_2 j (by omega))]; rfl)
end Sv
end Go.Proofs.YtlmloohlmlahfaaGreatDoor
end
section
namespace Go.Proofs.YtlmloohlmlahfaaGreatDoor
open Go Go.RowKit
namespace Sv
attribute [local irreducible] SW SO Bn
set_option maxHeartbeats 1000000
set_option maxRecDepth 100000
theorem Q0q : Au Tryz.prog 131 := Ay Tryz.func131 (by kernel_rfl) rfl
theorem Po : Au Tryz.prog 66 := Ay Tryz.func66 (by kernel_rfl) rfl
theorem Ng : Au Tryz.prog 73 := Ay Tryz.func73 (by kernel_rfl) rfl
theorem S3 : Au Tryz.prog 69 := Ay Tryz.func69 (by kernel_rfl) rfl
theorem X04 : Au Tryz.prog 134 := Ay Tryz.func134 (by kernel_rfl) rfl
theorem X05 : Au Tryz.prog 132 := Ay Tryz.func132 (by kernel_rfl) rfl
theorem Zl (x y : List Int) : (decide ((y.length : Int) = 0) || (decide (0 < (x.length : Int)) && decide (nth x 0 ≤ nth y 0))) = B1 x y := by
 unfold B1
 cases x <;> cases y <;> simp
 all_goals omega
theorem Sm {x y : List Int} (h : ¬(x = [] ∧ y = [])) (k : B1 x y = true) : 1 ≤ x.length := by
 cases x <;> cases y <;> simp_all [B1]
theorem Q9c {x y : List Int} (h : ¬(x = [] ∧ y = [])) (k : B1 x y = false) : B1 y x = true := by
 cases x <;> cases y <;> simp_all [B1]; omega
theorem Lf {p : Bool → Bool → Bool} {g : Nat} {x y : List Int} {u v : Bool} (hg : 1 ≤ g) (h : ¬(x = [] ∧ y = [])) (hu : B1 x y = u) (hv : B1 y x = v) :
  D3 p g x y = (if p u v = true then [if v = true then nth y 0 else nth x 0] else []) ++ D3 p (g - 1) (if u = true then x.drop 1 else x) (if v = true then y.drop 1 else y) := by
 obtain ⟨n, rfl⟩ : ∃ n, g = n + 1 := ⟨g - 1, by omega⟩
 rw [D3, if_neg h, hu, hv]; rfl
theorem Q7w (p : Bool → Bool → Bool) (g : Nat) : D3 p g [] [] = [] := by cases g <;> rfl
theorem Td {x : List Int} {n : Nat} (h : 1 ≤ x.length ∧ n = x.length - 1) : Imp (.row 1 n (fun kx => .int .i64 (nth x (1 + kx)))) (Af (x.drop 1)) := by
 obtain ⟨h1, rfl⟩ := h
 have e : x.length - 1 = (x.drop 1).length := by simp
 rw [e]
 exact Imp.row fun i hi => Imp.of_eq (by simp [nth, List.getElem?_drop, Nat.add_comm])
theorem Q7l (a b : Bool) :
  FnV Tryz.prog 134 [(.bool a), (.bool b)] (.bool (!b)) := by
 refine A4 [.tmp 4] Tryz.func134 rfl Tryz.ntmps134 rfl rfl (fun B F hF => ?_)
 refine Aa [] [1] ?_
 refine Aa [] [4] ?_
 refine Ag ?_
 refine RK wR [(.bool (!b))] ?_
 exact Same.of_eq (by first | rfl | (simp only [Ak]; simp_all))
theorem Q3z (a b : Bool) :
  FnV Tryz.prog 132 [(.bool a), (.bool b)] (.bool true) := by
 refine A4 [.tmp 4] Tryz.func132 rfl Tryz.ntmps132 rfl rfl (fun B F hF => ?_)
 refine Aa [] [] ?_
 refine Aa [] [4] ?_
 refine Ag ?_
 refine RK wR [(.bool true)] ?_
 exact Same.of_eq (by first | rfl | (simp only [Ak]; simp_all))
theorem X4 (a b : List Int) (q : AV) (p : Bool → Bool → Bool) (ha : a.length ≤ 4194304) (hb : b.length ≤ 4194304) (hq : ∀ u v, FunV Tryz.prog q [.bool u, .bool v] (.bool (p u v))) :
  FnV Tryz.prog 131 [(Af a), (Af b), (.clo q)] (Af (Jz p a b)) := by
 have h1 := H5 a
 have h2 := H5 b
 refine A4 [.tmp 6] Tryz.func131 rfl Tryz.ntmps131 rfl rfl (fun B F hF => ?_)
 refine Aa [] [0, 1, 2] ?_
 refine Ah [] [0, 1, 2] [] (hk 1 Po (Pd a (by omega)) <| hk 3 Po (Pd b (by omega)) <| hk0) v0 c0 ?_
 refine Aa [] [0, 1, 2, 7] ?_
 refine Ad ?_
 refine A1 ?_
 refine Qd 3 1 7 (y := ⟨[(0, (Af (Cj a))), (1, (Af (Cj b))), (2, (.clo q)), (7, (.own 0))], [(0, (.grow [] 3 1))], 1⟩) (by kernel_rfl) (by kernel_rfl) ?_
 refine Bv (fun g y => ∃ (fu : Nat) (x k zs : List Int), x.length ≤ (Cj a).length ∧ k.length ≤ (Cj b).length ∧ x.length + k.length < fu ∧ zs.length + (x.length + k.length) ≤ (Cj a).length + (Cj b).length ∧ D3 p ((Cj a).length + (Cj b).length + 1) (Cj a) (Cj b) = zs ++ D3 p fu x k ∧ y = ⟨[(0, (Af x)), (1, (Af k)), (2, (.clo q)), (7, (.own 0))], [(0, (.grow (zs.map (AV.int .i64)) 3 1))], 1⟩ ∧ g = fu) [0, 1, 2, 7] 1 _ (by omega) ⟨(Cj a).length + (Cj b).length + 1, (Cj a), (Cj b), [], (by omega), (by omega), (by omega), (by simp), (by rfl), (by kernel_rfl), rfl⟩ ?_
 rintro g1 y1 ⟨fu, x, k, zs, f1_1, f1_2, f1_3, f1_4, f1_5, rfl, rfl⟩
 refine Ad ?_
 obtain ⟨b1, hb1⟩ : ∃ b, b = (decide (0 < (x.length : Int))) := ⟨_, rfl⟩
 refine Ah (CS := [(5, ((!b1) = true → (!b1) = true)), (6, ((!b1) = true → (!b1) = true)), (7, (b1 = false → (!b1) = true))]) [19, 20, 21] [0, 1, 2, 7, 22] [] hk0 (vk 4 18 (a := .bool (decide (0 < (x.length : Int)))) (b := .bool b1) (Imp.of_eq (by rw [hb1])) <| v0) (by refine cc _ ?_ <| cc _ ?_ <| cc _ ?_ c0 <;> simp) ?_
 refine Bd (q := b1 || (decide (0 < (k.length : Int)))) (by kernel_rfl) (fun c1 => ?_) (fun c1 => ?_)
 ·subst hb1
  try simp only [Ao] at c1
  have hne : ¬(x = [] ∧ k = []) := by rintro ⟨rfl, rfl⟩; simp at c1
  refine Ai ?_
  refine A1 ?_
  have qh1 : ((((!(decide ((k.length : Int) = 0))) && (decide (0 < (x.length : Int)))) = true → (((!(decide ((k.length : Int) = 0))) && (decide (0 < (x.length : Int)))) = true) ∧ (0 ≤ (0 : Int) ∧ 0 < k.length))) := by
   intro hq; simp only [Bool.and_eq_true, Bool.not_eq_true', decide_eq_false_iff_not, decide_eq_true_eq] at hq ⊢; omega
  refine Cq [27, 28, 29, 30, 31, 32, 33, 34, 35, 36, 37, 38] [0, 1, 2, 7, 8] [] hk0 (vk 17 39 (a := (.bool ((decide ((k.length : Int) = 0)) || ((decide (0 < (x.length : Int))) && (decide ((nth x 0) ≤ (nth k 0))))))) (b := (.bool (B1 x k))) (Imp.of_eq (congrArg AV.bool (Zl x k))) <| v0) (cc 5 (p := ((!(decide ((k.length : Int) = 0))) = true → (!(decide ((k.length : Int) = 0))) = true)) (by simp) <| cc 6 (p := ((!(decide ((k.length : Int) = 0))) = true → (!(decide ((k.length : Int) = 0))) = true)) (by simp) <| cc 7 (p := ((!(decide ((k.length : Int) = 0))) = true → (!(decide ((k.length : Int) = 0))) = true)) (by simp) <| cc 9 (p := (((!(decide ((k.length : Int) = 0))) && (decide (0 < (x.length : Int)))) = true → (((!(decide ((k.length : Int) = 0))) && (decide (0 < (x.length : Int)))) = true) ∧ (0 ≤ (0 : Int) ∧ 0 < x.length))) (by simp) <| cc 10 (p := (((!(decide ((k.length : Int) = 0))) && (decide (0 < (x.length : Int)))) = true → ((!(decide ((k.length : Int) = 0))) && (decide (0 < (x.length : Int)))) = true)) (by simp) <| cc 12 (p := (((!(decide ((k.length : Int) = 0))) && (decide (0 < (x.length : Int)))) = true → (((!(decide ((k.length : Int) = 0))) && (decide (0 < (x.length : Int)))) = true) ∧ (0 ≤ (0 : Int) ∧ 0 < k.length))) qh1 <| cc 13 (p := (((!(decide ((k.length : Int) = 0))) && (decide (0 < (x.length : Int)))) = true → ((!(decide ((k.length : Int) = 0))) && (decide (0 < (x.length : Int)))) = true)) (by simp) <| cc 14 (p := (((!(decide ((k.length : Int) = 0))) && (decide (0 < (x.length : Int)))) = true → ((!(decide ((k.length : Int) = 0))) && (decide (0 < (x.length : Int)))) = true ∧ ((!(decide ((k.length : Int) = 0))) && (decide (0 < (x.length : Int)))) = true)) (by simp) <| cc 15 (p := ((!(decide ((k.length : Int) = 0))) = true → ((!(decide ((k.length : Int) = 0))) = true) ∧ ((decide (0 < (x.length : Int))) = true → ((!(decide ((k.length : Int) = 0))) && (decide (0 < (x.length : Int)))) = true))) (by (intros; simp_all; done)) <| cc 16 (p := ((decide ((k.length : Int) = 0)) = false → (!(decide ((k.length : Int) = 0))) = true)) (by simp) <| c0) ?_
  have qh2 : ((((!(decide ((x.length : Int) = 0))) && (decide (0 < (k.length : Int)))) = true → (((!(decide ((x.length : Int) = 0))) && (decide (0 < (k.length : Int)))) = true) ∧ (0 ≤ (0 : Int) ∧ 0 < x.length))) := by
   intro hq; simp only [Bool.and_eq_true, Bool.not_eq_true', decide_eq_false_iff_not, decide_eq_true_eq] at hq ⊢; omega
  refine Cq [44, 45, 46, 47, 48, 49, 50, 51, 52, 53, 54, 55] [0, 1, 2, 7, 8, 9] [] hk0 (vk 17 56 (a := (.bool ((decide ((x.length : Int) = 0)) || ((decide (0 < (k.length : Int))) && (decide ((nth k 0) ≤ (nth x 0))))))) (b := (.bool (B1 k x))) (Imp.of_eq (congrArg AV.bool (Zl k x))) <| v0) (cc 5 (p := ((!(decide ((x.length : Int) = 0))) = true → (!(decide ((x.length : Int) = 0))) = true)) (by simp) <| cc 6 (p := ((!(decide ((x.length : Int) = 0))) = true → (!(decide ((x.length : Int) = 0))) = true)) (by simp) <| cc 7 (p := ((!(decide ((x.length : Int) = 0))) = true → (!(decide ((x.length : Int) = 0))) = true)) (by simp) <| cc 9 (p := (((!(decide ((x.length : Int) = 0))) && (decide (0 < (k.length : Int)))) = true → (((!(decide ((x.length : Int) = 0))) && (decide (0 < (k.length : Int)))) = true) ∧ (0 ≤ (0 : Int) ∧ 0 < k.length))) (by simp) <| cc 10 (p := (((!(decide ((x.length : Int) = 0))) && (decide (0 < (k.length : Int)))) = true → ((!(decide ((x.length : Int) = 0))) && (decide (0 < (k.length : Int)))) = true)) (by simp) <| cc 12 (p := (((!(decide ((x.length : Int) = 0))) && (decide (0 < (k.length : Int)))) = true → (((!(decide ((x.length : Int) = 0))) && (decide (0 < (k.length : Int)))) = true) ∧ (0 ≤ (0 : Int) ∧ 0 < x.length))) qh2 <| cc 13 (p := (((!(decide ((x.length : Int) = 0))) && (decide (0 < (k.length : Int)))) = true → ((!(decide ((x.length : Int) = 0))) && (decide (0 < (k.length : Int)))) = true)) (by simp) <| cc 14 (p := (((!(decide ((x.length : Int) = 0))) && (decide (0 < (k.length : Int)))) = true → ((!(decide ((x.length : Int) = 0))) && (decide (0 < (k.length : Int)))) = true ∧ ((!(decide ((x.length : Int) = 0))) && (decide (0 < (k.length : Int)))) = true)) (by simp) <| cc 15 (p := ((!(decide ((x.length : Int) = 0))) = true → ((!(decide ((x.length : Int) = 0))) = true) ∧ ((decide (0 < (k.length : Int))) = true → ((!(decide ((x.length : Int) = 0))) && (decide (0 < (k.length : Int)))) = true))) (by (intros; simp_all; done)) <| cc 16 (p := ((decide ((x.length : Int) = 0)) = false → (!(decide ((x.length : Int) = 0))) = true)) (by simp) <| c0) ?_
  refine Aa [] [0, 1, 2, 7, 8, 9, 10] ?_
  refine Ad ?_
  refine Aa [] [0, 1, 2, 7, 8, 9, 10, 57] ?_
  refine Bd (q := B1 x k) (by kernel_rfl) (fun c2 => ?_) (fun c2 => ?_)
  ·try simp only [Ao] at c2
   have h1x := Sm hne c2
   refine Gy (CS := [(1, (0 ≤ (0 : Int) ∧ 0 < x.length)), (4, (0 ≤ (1 : Int) ∧ (1 : Int) ≤ (x.length : Int) ∧ (x.length : Int) ≤ (x.length : Int)))]) [] [0, 1, 2, 7, 8, 9, 10] [] hk0 (vk 6 62 (a := (.row 1 (x.length - 1) (fun kx => (.int .i64 (nth x (1 + kx)))))) (b := (Af (x.drop 1))) (Td (by omega)) <| v0) (by refine cc _ ?_ <| cc _ ?_ c0 <;> omega) ?_
   refine Ad ?_
   refine Aa [] [0, 1, 2, 7, 8, 9, 10, 63] ?_
   refine Bd (q := B1 k x) (by kernel_rfl) (fun c3 => ?_) (fun c3 => ?_)
   ·try simp only [Ao] at c3
    have h1y := Sm (fun q => hne ⟨q.2, q.1⟩) c3
    refine Gy (CS := [(1, (0 ≤ (0 : Int) ∧ 0 < k.length)), (4, (0 ≤ (1 : Int) ∧ (1 : Int) ≤ (k.length : Int) ∧ (k.length : Int) ≤ (k.length : Int)))]) [] [0, 1, 2, 7, 8, 9, 10] [] hk0 (vk 6 68 (a := (.row 1 (k.length - 1) (fun kx => (.int .i64 (nth k (1 + kx)))))) (b := (Af (k.drop 1))) (Td (by omega)) <| v0) (by refine cc _ ?_ <| cc _ ?_ c0 <;> omega) ?_
    refine Ad ?_
    refine Ap ?_
    refine Bq 3 0 [] [0, 1, 2, 7, 10, 69, 70, 71] [] hk0 v0 c0 ?_
    refine Fd (s' := [(0, (Af (x.drop 1))), (1, (Af (k.drop 1))), (2, (.clo q)), (7, (.own 0)), (10, (.int .i64 (nth k 0))), (69, (.clo q)), (70, (.bool (B1 x k))), (71, (.bool (B1 k x))), (72, (.bool (p ((B1 x k)) ((B1 k x)))))]) (a := (.clo q)) (al := [(.bool (B1 x k)), (.bool (B1 k x))]) (r := (.bool (p ((B1 x k)) ((B1 k x))))) (by kernel_rfl) (by kernel_rfl) (by kernel_rfl) (by kernel_rfl) (by kernel_rfl) ((hq _ _).clo) (by kernel_rfl) ?_
    refine Bx ?_
    refine Bd (q := p ((B1 x k)) ((B1 k x))) (by kernel_rfl) (fun c4 => ?_) (fun c4 => ?_)
    ·try simp only [Ao] at c4
     refine Ap ?_
     refine Av 0 [] [0, 1, 2, 7] [] hk0 v0 (cc 3 (p := (((zs.map (AV.int .i64)).length + 1) * 8 ≤ 140737488355328)) (by (simp; omega)) <| c0) ?_
     refine ⟨by kernel_rfl, _, ?_, g1 - 1, (x.drop 1), (k.drop 1), zs ++ [nth k 0], ?_, ?_, ?_, ?_, ?_, (Eq.trans (b := (⟨[(0, (Af (x.drop 1))), (1, (Af (k.drop 1))), (2, (.clo q)), (7, (.own 0))], [(0, (.grow ((zs.map (AV.int .i64)) ++ ([(.int .i64 (nth k 0))] : List AV)) 3 1))], 1⟩ : St)) (by kernel_rfl) (by rw [List.map_append] <;> kernel_rfl)), rfl⟩
     ·omega
     ·(try rw [List.length_drop]); omega
     ·(try rw [List.length_drop]); omega
     ·(repeat rw [List.length_drop]); omega
     ·(try rw [List.length_append, List.length_singleton]); (repeat rw [List.length_drop]); omega
     ·rw [c2, c3] at c4
      rw [f1_5, Lf (by omega) hne c2 c3]
      simp [c4]
    ·try simp only [Ao] at c4
     refine Ai ?_
     refine ⟨by kernel_rfl, _, ?_, g1 - 1, (x.drop 1), (k.drop 1), zs, ?_, ?_, ?_, ?_, ?_, (by kernel_rfl), rfl⟩
     ·omega
     ·(try rw [List.length_drop]); omega
     ·(try rw [List.length_drop]); omega
     ·(repeat rw [List.length_drop]); omega
     ·(try rw [List.length_append, List.length_singleton]); (repeat rw [List.length_drop]); omega
     ·rw [c2, c3] at c4
      rw [f1_5, Lf (by omega) hne c2 c3]
      simp [c4]
   ·try simp only [Ao] at c3
    refine Ai ?_
    refine Ad ?_
    refine Ap ?_
    refine Bq 3 0 [] [0, 1, 2, 7, 10, 69, 70, 71] [] hk0 v0 c0 ?_
    refine Fd (s' := [(0, (Af (x.drop 1))), (1, (Af k)), (2, (.clo q)), (7, (.own 0)), (10, (.int .i64 (nth x 0))), (69, (.clo q)), (70, (.bool (B1 x k))), (71, (.bool (B1 k x))), (72, (.bool (p ((B1 x k)) ((B1 k x)))))]) (a := (.clo q)) (al := [(.bool (B1 x k)), (.bool (B1 k x))]) (r := (.bool (p ((B1 x k)) ((B1 k x))))) (by kernel_rfl) (by kernel_rfl) (by kernel_rfl) (by kernel_rfl) (by kernel_rfl) ((hq _ _).clo) (by kernel_rfl) ?_
    refine Bx ?_
    refine Bd (q := p ((B1 x k)) ((B1 k x))) (by kernel_rfl) (fun c5 => ?_) (fun c5 => ?_)
    ·try simp only [Ao] at c5
     refine Ap ?_
     refine Av 0 [] [0, 1, 2, 7] [] hk0 v0 (cc 3 (p := (((zs.map (AV.int .i64)).length + 1) * 8 ≤ 140737488355328)) (by (simp; omega)) <| c0) ?_
     refine ⟨by kernel_rfl, _, ?_, g1 - 1, (x.drop 1), k, zs ++ [nth x 0], ?_, ?_, ?_, ?_, ?_, (Eq.trans (b := (⟨[(0, (Af (x.drop 1))), (1, (Af k)), (2, (.clo q)), (7, (.own 0))], [(0, (.grow ((zs.map (AV.int .i64)) ++ ([(.int .i64 (nth x 0))] : List AV)) 3 1))], 1⟩ : St)) (by kernel_rfl) (by rw [List.map_append] <;> kernel_rfl)), rfl⟩
     ·omega
     ·(try rw [List.length_drop]); omega
     ·(try rw [List.length_drop]); omega
     ·(repeat rw [List.length_drop]); omega
     ·(try rw [List.length_append, List.length_singleton]); (repeat rw [List.length_drop]); omega
     ·rw [c2, c3] at c5
      rw [f1_5, Lf (by omega) hne c2 c3]
      simp [c5]
    ·try simp only [Ao] at c5
     refine Ai ?_
     refine ⟨by kernel_rfl, _, ?_, g1 - 1, (x.drop 1), k, zs, ?_, ?_, ?_, ?_, ?_, (by kernel_rfl), rfl⟩
     ·omega
     ·(try rw [List.length_drop]); omega
     ·(try rw [List.length_drop]); omega
     ·(repeat rw [List.length_drop]); omega
     ·(try rw [List.length_append, List.length_singleton]); (repeat rw [List.length_drop]); omega
     ·rw [c2, c3] at c5
      rw [f1_5, Lf (by omega) hne c2 c3]
      simp [c5]
  ·try simp only [Ao] at c2
   refine Ai ?_
   refine Ad ?_
   refine Aa [] [0, 1, 2, 7, 8, 9, 10, 63] ?_
   refine Bd (q := B1 k x) (by kernel_rfl) (fun c6 => ?_) (fun c6 => ?_)
   ·try simp only [Ao] at c6
    have h1y := Sm (fun q => hne ⟨q.2, q.1⟩) c6
    refine Gy (CS := [(1, (0 ≤ (0 : Int) ∧ 0 < k.length)), (4, (0 ≤ (1 : Int) ∧ (1 : Int) ≤ (k.length : Int) ∧ (k.length : Int) ≤ (k.length : Int)))]) [] [0, 1, 2, 7, 8, 9, 10] [] hk0 (vk 6 68 (a := (.row 1 (k.length - 1) (fun kx => (.int .i64 (nth k (1 + kx)))))) (b := (Af (k.drop 1))) (Td (by omega)) <| v0) (by refine cc _ ?_ <| cc _ ?_ c0 <;> omega) ?_
    refine Ad ?_
    refine Ap ?_
    refine Bq 3 0 [] [0, 1, 2, 7, 10, 69, 70, 71] [] hk0 v0 c0 ?_
    refine Fd (s' := [(0, (Af x)), (1, (Af (k.drop 1))), (2, (.clo q)), (7, (.own 0)), (10, (.int .i64 (nth k 0))), (69, (.clo q)), (70, (.bool (B1 x k))), (71, (.bool (B1 k x))), (72, (.bool (p ((B1 x k)) ((B1 k x)))))]) (a := (.clo q)) (al := [(.bool (B1 x k)), (.bool (B1 k x))]) (r := (.bool (p ((B1 x k)) ((B1 k x))))) (by kernel_rfl) (by kernel_rfl) (by kernel_rfl) (by kernel_rfl) (by kernel_rfl) ((hq _ _).clo) (by kernel_rfl) ?_
    refine Bx ?_
    refine Bd (q := p ((B1 x k)) ((B1 k x))) (by kernel_rfl) (fun c7 => ?_) (fun c7 => ?_)
    ·try simp only [Ao] at c7
     refine Ap ?_
     refine Av 0 [] [0, 1, 2, 7] [] hk0 v0 (cc 3 (p := (((zs.map (AV.int .i64)).length + 1) * 8 ≤ 140737488355328)) (by (simp; omega)) <| c0) ?_
     refine ⟨by kernel_rfl, _, ?_, g1 - 1, x, (k.drop 1), zs ++ [nth k 0], ?_, ?_, ?_, ?_, ?_, (Eq.trans (b := (⟨[(0, (Af x)), (1, (Af (k.drop 1))), (2, (.clo q)), (7, (.own 0))], [(0, (.grow ((zs.map (AV.int .i64)) ++ ([(.int .i64 (nth k 0))] : List AV)) 3 1))], 1⟩ : St)) (by kernel_rfl) (by rw [List.map_append] <;> kernel_rfl)), rfl⟩
     ·omega
     ·(try rw [List.length_drop]); omega
     ·(try rw [List.length_drop]); omega
     ·(repeat rw [List.length_drop]); omega
     ·(try rw [List.length_append, List.length_singleton]); (repeat rw [List.length_drop]); omega
     ·rw [c2, c6] at c7
      rw [f1_5, Lf (by omega) hne c2 c6]
      simp [c7]
    ·try simp only [Ao] at c7
     refine Ai ?_
     refine ⟨by kernel_rfl, _, ?_, g1 - 1, x, (k.drop 1), zs, ?_, ?_, ?_, ?_, ?_, (by kernel_rfl), rfl⟩
     ·omega
     ·(try rw [List.length_drop]); omega
     ·(try rw [List.length_drop]); omega
     ·(repeat rw [List.length_drop]); omega
     ·(try rw [List.length_append, List.length_singleton]); (repeat rw [List.length_drop]); omega
     ·rw [c2, c6] at c7
      rw [f1_5, Lf (by omega) hne c2 c6]
      simp [c7]
   ·try simp only [Ao] at c6
    have := Q9c hne c2
    rw [c6] at this
    cases this
 ·subst hb1
  try simp only [Ao] at c1
  refine Br ?_
  refine Aa [] [6] ?_
  refine Ag ?_
  refine RK wR [(.row 1 (zs.map (AV.int .i64)).length (fun ix => (zs.map (AV.int .i64)).getD ix Bm))] ?_
  simp only [Ak]
  exact Same.grown (f := AV.int .i64) (l := Jz p a b) (by
   obtain rfl : x = [] := List.length_eq_zero_iff.1 (by omega)
   obtain rfl : k = [] := List.length_eq_zero_iff.1 (by omega)
   unfold Jz
   rw [f1_5, Q7w, List.append_nil])
theorem M7 (a b : List Int) (ha : a.length ≤ 4194304) (hb : b.length ≤ 4194304) :
  FnV Tryz.prog 73 [(Af a), (Af b)] (Af (Ae a b)) := by
 refine A4 [.tmp 4] Tryz.func73 rfl Tryz.ntmps73 rfl rfl (fun B F hF => ?_)
 refine Aa [] [0, 1] ?_
 refine Ah [] [4] [] (hk 2 (al := [(Af a), (Af b), (.fn 134 [] [])]) Q0q (((X4 a b (.fn 134 [] []) (fun _ v => !v) ha hb (fun u v => FunV.of (by exact X04) (Q7l u v))).of_args (ImpL.cons Imp.refl (ImpL.cons Imp.refl (ImpL.cons (Imp.clo rfl) ImpL.nil)))).to (Same.of_eq (by rw [Q7k]))) <| hk0) v0 c0 ?_
 refine Ag ?_
 refine RK wR [(Af (Ae a b))] ?_
 exact Same.of_eq (by first | rfl | (simp only [Ak]; simp_all))
theorem Sg (a b : List Int) (ha : a.length ≤ 4194304) (hb : b.length ≤ 4194304) :
  FnV Tryz.prog 69 [(Af a), (Af b)] (Af (Aw a b)) := by
 refine A4 [.tmp 4] Tryz.func69 rfl Tryz.ntmps69 rfl rfl (fun B F hF => ?_)
 refine Aa [] [0, 1] ?_
 refine Ah [] [4] [] (hk 2 (al := [(Af a), (Af b), (.fn 132 [] [])]) Q0q (((X4 a b (.fn 132 [] []) (fun _ _ => true) ha hb (fun u v => FunV.of (by exact X05) (Q3z u v))).of_args (ImpL.cons Imp.refl (ImpL.cons Imp.refl (ImpL.cons (Imp.clo rfl) ImpL.nil)))).to (Same.of_eq (by rw [Q3y]))) <| hk0) v0 c0 ?_
 refine Ag ?_
 refine RK wR [(Af (Aw a b))] ?_
 exact Same.of_eq (by first | rfl | (simp only [Ak]; simp_all))
end Sv
end Go.Proofs.YtlmloohlmlahfaaGreatDoor
end
section
namespace Go.Proofs.YtlmloohlmlahfaaGreatDoor
open Go Go.RowKit
namespace Sv
attribute [local irreducible] SW SO Bn
set_option maxHeartbeats 1000000
set_option maxRecDepth 100000
def Fs (k : Int) (a b : List UInt8) : Int × Int := if ¬ (Bi k a b).2.2 = 0 then (0, (Bi k a b).2.2) else (orI (Cm k (Bi k a b).1 (Bi k a b).2.1).1 (Cm k (Bi k a b).1 (Bi k a b).2.1).2, 0)
def Sgn (x : Int) : Prop := -1 ≤ x ∧ x ≤ 1
theorem Mj : Sgn 0 := ⟨by decide, by decide⟩
theorem Mi : Sgn 1 := ⟨by decide, by decide⟩
theorem N9 : Sgn (-1) := ⟨by decide, by decide⟩
theorem Tr (a b : Int) : Sgn (Gd a b) := by unfold Gd Sgn; split <;> (try split) <;> omega
theorem Mt {a b : Int} (h1 : Sgn a) (h2 : Sgn b) : Sgn (orI a b) := by unfold orI; split <;> assumption
theorem Ro {g : Int} (a b : Bool) (h : Sgn g) : Sgn (Fj a b g) := by unfold Fj Sgn at *; split <;> (try split) <;> omega
theorem Tu : ∀ a b : List UInt8, Sgn (Lib.compareBytes a b)
 | [], [] => Mj
 | [], _ :: _ => N9
 | _ :: _, [] => Mi
 | a :: r, b :: s => by
  unfold Lib.compareBytes
  split
  ·exact N9
  ·split
   ·exact Mi
   ·exact Tu r s
theorem Mv (a b : List UInt8) : Sgn (Dz a b) := Mt (Tr _ _) (Tu _ _)
theorem Py : ∀ (n : Nat) (a b : List UInt8), Sgn (Ga n a b)
 | 0, _, _ => Mj
 | n + 1, a, b => by
  unfold Ga
  split
  ·split
   ·exact Tr _ _
   ·exact Py n _ _
  ·split
   ·exact Mv _ _
   ·split
    ·exact Py n _ _
    ·exact Mj
theorem Oe : ∀ (n : Nat) (a b : List UInt8), Sgn (H6 n a b)
 | 0, _, _ => Mj
 | n + 1, a, b => by
  unfold H6 E6
  repeat' split
  all_goals first | exact Oe n _ _ | exact Ro _ _ Mi | exact Ro _ _ N9 | exact Tr _ _ | exact Mv _ _ | exact Tu _ _ | exact Mi | exact N9
theorem Q1e (k : Int) (a b : List UInt8) : Sgn (Fs k a b).1 := by
 unfold Fs
 split
 ·exact Mj
 ·have h1 : ∀ x y : List UInt8 × List UInt8 × List UInt8, Sgn (Cm k x y).1 ∧ Sgn (Cm k x y).2 := fun x y => by
   unfold Cm Jb Hl
   split
   ·exact ⟨Mt (Mv _ _) (Py _ _ _), Py _ _ _⟩
   ·split
    ·exact ⟨Mt (Mv _ _) (Oe _ _ _), Ro _ _ Mi⟩
    ·exact ⟨Mt (Mv _ _) (Oe _ _ _), Oe _ _ _⟩
  exact Mt (h1 _ _).1 (h1 _ _).2
theorem X15 (k : Int) (a b : List UInt8) (ha : a.length ≤ 4194304) (hb : b.length ≤ 4194304) :
  FnV Tryz.prog 85 [(.int .i64 k), (.str a), (.str b)] (.tup [.int .i64 (Fs k a b).1, .int .i64 (Fs k a b).2]) := by
 have hbl := Q1s k a b
 refine A4 [.tmp 6, .tmp 7] Tryz.func85 rfl Tryz.ntmps85 rfl rfl (fun B F hF => ?_)
 refine Aa [] [0, 1, 2] ?_
 refine Ah [] [0, 8, 9, 10] [(11, 8), (12, 9)] (hk 3 Q0p (Q1o k a b (by omega) (by omega)) <| hk0) v0 c0 ?_
 refine Ad ?_
 refine Aa [] [0, 8, 9, 10, 20] ?_
 refine Da (p := ((Bi k a b).2.2) = 0) (by kernel_rfl) (fun c1 => ?_) (fun c1 => ?_)
 ·refine Aa [] [6, 7] ?_
  refine Ag ?_
  refine RK wR [(.int .i64 0), (.int .i64 ((Bi k a b).2.2))] ?_
  exact Same.of_eq (by simp only [Ak]; unfold Fs; rw [if_pos (by assumption)])
 ·refine Ai ?_
  refine Ah [] [6, 7] [(7, 28)] (hk 3 Q0o (Wi k (Bi k a b).1 (Bi k a b).2.1 ⟨by omega, by omega, by omega⟩ ⟨by omega, by omega, by omega⟩) <| hk 7 Pr (Ox (Cm k (Bi k a b).1 (Bi k a b).2.1).1 (Cm k (Bi k a b).1 (Bi k a b).2.1).2) <| hk0) (vk 7 28 (b := (Af [(Cm k (Bi k a b).1 (Bi k a b).2.1).1, (Cm k (Bi k a b).1 (Bi k a b).2.1).2])) (Imp.list (f := AV.int .i64) rfl) <| v0) c0 ?_
  refine Ag ?_
  refine RK wR [(.int .i64 (orI (Cm k (Bi k a b).1 (Bi k a b).2.1).1 (Cm k (Bi k a b).1 (Bi k a b).2.1).2)), (.int .i64 0)] ?_
  exact Same.of_eq (by simp only [Ak]; unfold Fs; rw [if_neg (by simp_all)])
end Sv
end Go.Proofs.YtlmloohlmlahfaaGreatDoor
end
section
namespace Go.Proofs.YtlmloohlmlahfaaGreatDoor
open Go Go.RowKit
namespace Sv
abbrev Bk := Int × Int × Int
def Dk (k : Int) : Bool := decide (k = 1) || (decide (k = 3) || (decide (k = 4) || decide (k = 5)))
def Gq (k : Int) : Bool := decide (k = 2) || (decide (k = 6) || decide (k = 7))
def D4 (s : List Int) (q : Bk) : List Int := if Dk q.1 = true then Aw s [q.2.1] else if Gq q.1 = true then Ae s [q.2.1] else s
def Ar (l : List Int) (q : List Bk) : List Int := q.foldl D4 (Cj l)
theorem Q16 {l : List Int} {q : List Bk} {x : Bk} : Ar l (q ++ [x]) = D4 (Ar l q) x := by unfold Ar; rw [List.foldl_append]; rfl
theorem Zg {α β : Type} {C : β → Prop} {f : β → α → β} (h : ∀ s a, C s → C (f s a)) : ∀ (l : List α) (s : β), C s → C (l.foldl f s)
  | [], _, k => k
  | a :: l, s, k => Zg h l _ (h s a k)
theorem Q17 (l : List Int) (q : List Bk) : Cr (Ar l q) := Zg (C := Cr) (fun s a h => by
  unfold D4
  split
  · exact N0 _ _
  · split
    · exact I4 _ _
    · exact h) q _ (Ix l)
theorem X24 (s : List Int) (x : Bk) : (D4 s x).length ≤ s.length + 1 := by
  unfold D4
  split
  · have := H5 (s ++ [x.2.1])
    unfold Aw
    rw [List.length_append, List.length_singleton] at this
    exact this
  · split
    · have h1 := H5 (s.filter fun z => !decide (z ∈ [x.2.1]))
      have h2 := List.length_filter_le (fun z => !decide (z ∈ [x.2.1])) s
      unfold Ae; omega
    · omega
theorem T0 (l : List Int) (q : List Bk) : (Ar l q).length ≤ l.length + q.length := by
  have h : ∀ (q : List Bk) (s : List Int), (q.foldl D4 s).length ≤ s.length + q.length := by
    intro q
    induction q with
    | nil => intro s; exact Nat.le_refl _
    | cons x q ih =>
      intro s
      have h1 := X24 s x
      have h2 := ih (D4 s x)
      simp only [List.foldl_cons, List.length_cons]; omega
  have h1 := h q (Cj l)
  have h2 := H5 l
  unfold Ar; omega
theorem Zb {z : Int} : ∀ (q : List Bk) (s : List Int), (∀ x ∈ q, Dk x.1 = true ∨ Gq x.1 = true) → (q.map fun x => x.2.1).Nodup → (z ∈ q.foldl D4 s ↔ (∃ x ∈ q, x.2.1 = z ∧ Dk x.1 = true) ∨ (z ∈ s ∧ ∀ x ∈ q, x.2.1 = z → Dk x.1 = true))
  | [], s, _, _ => by simp
  | x :: q, s, hk, hn => by
    rw [List.map_cons, List.nodup_cons] at hn
    have ih := Zb (z := z) q (D4 s x) (fun y hy => hk y (by simp [hy])) hn.2
    rw [List.foldl_cons, ih]
    have hx := hk x (by simp)
    by_cases e : x.2.1 = z
    · have no : ¬ ∃ y ∈ q, y.2.1 = z ∧ Dk y.1 = true := fun ⟨y, hy, h1, _⟩ => hn.1 (List.mem_map.2 ⟨y, hy, by rw [h1, e]⟩)
      have all : ∀ y ∈ q, y.2.1 = z → Dk y.1 = true := fun y hy h1 => absurd (List.mem_map.2 ⟨y, hy, by rw [h1, e]⟩) hn.1
      by_cases c : Dk x.1 = true
      · have m : z ∈ D4 s x := by unfold D4; rw [if_pos c, unionZ_mem]; simp [e]
        exact ⟨fun _ => .inl ⟨x, by simp, e, c⟩, fun _ => .inr ⟨m, all⟩⟩
      · have g := hx.resolve_left c
        have m : ¬ z ∈ D4 s x := by unfold D4; rw [if_neg c, if_pos g, minusZ_mem]; simp [e]
        constructor
        · rintro (h | h)
          · exact absurd h no
          · exact absurd h.1 m
        · rintro (⟨y, hy, h1, h2⟩ | h)
          · rcases List.mem_cons.1 hy with rfl | hy
            · exact absurd h2 c
            · exact absurd ⟨y, hy, h1, h2⟩ no
          · exact absurd (h.2 x (by simp) e) c
    · have m : z ∈ D4 s x ↔ z ∈ s := by
        unfold D4
        split
        · rw [unionZ_mem, List.mem_singleton]; exact ⟨fun h => h.resolve_right fun k => e k.symm, .inl⟩
        · split
          · rw [minusZ_mem, List.mem_singleton]; exact ⟨fun h => h.1, fun h => ⟨h, fun k => e k.symm⟩⟩
          · exact Iff.rfl
      rw [m]
      constructor
      · rintro (⟨y, hy, h⟩ | ⟨h1, h2⟩)
        · exact .inl ⟨y, by simp [hy], h⟩
        · exact .inr ⟨h1, fun y hy k => by
            rcases List.mem_cons.1 hy with rfl | hy
            · exact absurd k e
            · exact h2 y hy k⟩
      · rintro (⟨y, hy, h⟩ | ⟨h1, h2⟩)
        · rcases List.mem_cons.1 hy with rfl | hy
          · exact absurd h.1 e
          · exact .inl ⟨y, hy, h⟩
        · exact .inr ⟨h1, fun y hy => h2 y (by simp [hy])⟩
def B8 (p : Int → Bool) (l : List Int) : Int := if 0 ≤ Bz p l then nth l (Bz p l).toNat else -1
theorem K1 : ∀ {l : List Int}, Cr l → l.Nodup
  | [], _ => List.nodup_nil
  | x :: l, h => List.nodup_cons.2 ⟨fun k => by have := h.1 x k; omega, K1 h.2⟩
section
variable {f : List Int → List Int → Int → Bk} {a b : List Int}
def T5 (f : List Int → List Int → Int → Bk) : Prop := ∀ c g i, (f c g i).2.1 = i ∧ (i ∈ c → Dk (f c g i).1 = true ∧ Gq (f c g i).1 = false) ∧ (¬ i ∈ c → Dk (f c g i).1 = false ∧ Gq (f c g i).1 = true)
def Ek (f : List Int → List Int → Int → Bk) (a b : List Int) : List Bk := (Aw (Ae b a) (Ae a b)).map (f (Ae b a) (Ae a b))
theorem U5 (h : T5 f) : (Ek f a b).map (fun x => x.2.1) = Aw (Ae b a) (Ae a b) := by
  unfold Ek
  rw [List.map_map]
  refine Eq.trans (List.map_congr_left fun i _ => (h _ _ i).1) (List.map_id _)
theorem Q4a (h : T5 f) (hb : Cr b) {q : List Bk} (hq : q.Perm (Ek f a b)) : Ar a q = b := by
  have hn : (q.map fun x => x.2.1).Nodup := by
    rw [(hq.map fun x => x.2.1).nodup_iff, U5 h]
    exact K1 (N0 _ _)
  have hm : ∀ x, x ∈ q ↔ x ∈ Ek f a b := fun x => hq.mem_iff
  have hk : ∀ x ∈ q, ∃ i, (i ∈ Ae b a ∨ i ∈ Ae a b) ∧ x.2.1 = i ∧ (Dk x.1 = true ↔ i ∈ Ae b a) ∧ (Dk x.1 = true ∨ Gq x.1 = true) := fun x hx => by
    obtain ⟨i, hi, rfl⟩ := List.mem_map.1 ((hm x).1 hx)
    have k := h (Ae b a) (Ae a b) i
    refine ⟨i, unionZ_mem.1 hi, k.1, ?_, ?_⟩
    · by_cases c : i ∈ Ae b a
      · exact ⟨fun _ => c, fun _ => (k.2.1 c).1⟩
      · exact ⟨fun q => absurd q (by rw [(k.2.2 c).1]; decide), fun q => absurd q c⟩
    · by_cases c : i ∈ Ae b a
      · exact .inl (k.2.1 c).1
      · exact .inr (k.2.2 c).2
  refine Rd (Q17 _ _) hb fun z => ?_
  unfold Ar
  rw [Zb q _ (fun x hx => (hk x hx).elim fun i k => k.2.2.2) hn, Ml]
  constructor
  · rintro (⟨x, hx, rfl, hc⟩ | ⟨h1, h2⟩)
    · obtain ⟨i, _, e, hi, _⟩ := hk x hx
      rw [e]; exact (minusZ_mem.1 (hi.1 hc)).1
    · by_cases hz : z ∈ b
      · exact hz
      · have hu : z ∈ Aw (Ae b a) (Ae a b) := unionZ_mem.2 (.inr (minusZ_mem.2 ⟨h1, hz⟩))
        have k := h (Ae b a) (Ae a b) z
        have hx := h2 (f (Ae b a) (Ae a b) z) ((hm _).2 (List.mem_map.2 ⟨z, hu, rfl⟩)) k.1
        rw [(k.2.2 fun c => hz (minusZ_mem.1 c).1).1] at hx; cases hx
  · intro hz
    by_cases ha : z ∈ a
    · refine .inr ⟨ha, fun x hx e => ?_⟩
      obtain ⟨i, hi, e', hc, _⟩ := hk x hx
      rw [e] at e'; subst e'
      rcases hi with hi | hi
      · exact absurd ha (minusZ_mem.1 hi).2
      · exact absurd hz (minusZ_mem.1 hi).2
    · have hc : z ∈ Ae b a := minusZ_mem.2 ⟨hz, ha⟩
      have k := h (Ae b a) (Ae a b) z
      exact .inl ⟨_, (hm _).2 (List.mem_map.2 ⟨z, unionZ_mem.2 (.inl hc), rfl⟩), k.1, (k.2.1 hc).1⟩
theorem Q39 : (Ek f a b).length = (Aw (Ae b a) (Ae a b)).length := by unfold Ek; rw [List.length_map]
end
def X0 (st : PoolT) (o : Int) : List UInt8 := (nth st.all o.toNat).1.name
def Ls (st : PoolT) (o : Int) : List UInt8 := (nth st.all o.toNat).1.evr
def Ct (st : PoolT) (id o : Int) : Bool := decide (X0 st o = X0 st id)
def G2 (m : Int → Int → List UInt8 → Int → List UInt8 → Bool × Int) (st : PoolT) (id o : Int) : Bool := (nth st.all o.toNat).1.obsoletes.any fun d => decide (id ∈ (Et m st d).1)
def Nk (st : PoolT) (g : List Int) (id : Int) : Bk :=
  if 0 ≤ B8 (Ct st id) g then (nth [4, 5, 3] ((Fs st.kind (Ls st id) (Ls st (B8 (Ct st id) g))).1 + 1).toNat, id, B8 (Ct st id) g) else (1, id, B8 (Ct st id) g)
def goS (m : Int → Int → List UInt8 → Int → List UInt8 → Bool × Int) (st : PoolT) (c : List Int) (id : Int) : Bk :=
  if 0 ≤ B8 (Ct st id) c then (6, id, B8 (Ct st id) c) else if 0 ≤ B8 (G2 m st id) c then (7, id, B8 (G2 m st id) c) else (2, id, B8 (G2 m st id) c)
def B9 (m : Int → Int → List UInt8 → Int → List UInt8 → Bool × Int) (st : PoolT) (c g : List Int) (id : Int) : Bk := if id ∈ c then Nk st g id else goS m st c id
def Ed (st : PoolT) (id : Int) : Bool := decide (id < 0) || decide ((st.all.length : Int) ≤ id)
def Aj (m : Int → Int → List UInt8 → Int → List UInt8 → Bool × Int) (st : PoolT) (a b : List Int) : List Bk × Int := if a.any (Ed st) = true ∨ b.any (Ed st) = true then ([], 69) else (Ek (B9 m st) a b, 0)
theorem U9 (m : Int → Int → List UInt8 → Int → List UInt8 → Bool × Int) (st : PoolT) : T5 (B9 m st) := by
  intro c g i
  refine ⟨?_, fun h => ?_, fun h => ?_⟩
  · unfold B9 Nk goS
    repeat' split
    all_goals rfl
  · unfold B9 Nk
    rw [if_pos h]
    split
    · have h1 := Q1e st.kind (Ls st i) (Ls st (B8 (Ct st i) g))
      unfold Sgn at h1
      generalize (Fs st.kind (Ls st i) (Ls st (B8 (Ct st i) g))).1 = x at h1
      rcases (by omega : x = -1 ∨ x = 0 ∨ x = 1) with rfl | rfl | rfl <;> exact ⟨rfl, rfl⟩
    · exact ⟨rfl, rfl⟩
  · unfold B9 goS
    rw [if_neg h]
    repeat' split
    all_goals exact ⟨rfl, rfl⟩
theorem Kx {m : Int → Int → List UInt8 → Int → List UInt8 → Bool × Int} {st : PoolT} {a b : List Int} (ha : ∀ x ∈ a, 0 ≤ x ∧ x < st.all.length) (hb : ∀ x ∈ b, 0 ≤ x ∧ x < st.all.length) : Aj m st a b = (Ek (B9 m st) a b, 0) := by
  have k : ∀ l : List Int, (∀ x ∈ l, 0 ≤ x ∧ x < st.all.length) → l.any (Ed st) = false := fun l h => by
    rw [List.any_eq_false]
    intro x hx
    have := h x hx
    unfold Ed
    simp; omega
  unfold Aj
  rw [k a ha, k b hb]; rfl
end Sv
end Go.Proofs.YtlmloohlmlahfaaGreatDoor
end
section
namespace Go.Proofs.YtlmloohlmlahfaaGreatDoor
open Go Go.RowKit
set_option linter.unusedSimpArgs false
set_option linter.unusedVariables false
namespace Sv
section
variable {P : Program} {n : Nat} {φ : Phi} {σ : Nat → Value}
theorem Q4m {dst : Option Tmp} {t : Nat} {X LO HI MX : Operand} {ty : TypeId} {ps : String} {af : Array Edge} {g : Option (Nat × Bool)} {e sz len i j m : Nat} {k1 k2 k3 : IntKind} {gf : Nat → AV} {s : Fr}
    (he : Ew P t = some e) (hs : tsz P e = some sz) (hx : evA s X = some (.row sz len gf)) (h1 : evA s LO = some (.int k1 (i : Int))) (h2 : evA s HI = some (.int k2 (j : Int))) (h3 : evA s MX = some (.int k3 (m : Int)))
    (hj : i < j) (hjm : j ≤ m) (hm : m ≤ len) (φ : Phi) (σ : Nat → Value) (h : FRel φ n s σ) :
    ∃ v, (∀ w, (execOp (ev n σ) ⟨dst, .slice t X (some LO) (some HI) (some MX), ty, ps, af, g⟩).run P w = .ok (.value v) w) ∧ VR φ (.row sz (j - i) (fun q => gf (i + q))) v := by
  have hx := h.ev _ _ hx
  have h1 := h.ev _ _ h1
  have h2 := h.ev _ _ h2
  have h3 := h.ev _ _ h3
  simp only [VR] at hx h1 h2 h3
  obtain ⟨u, hu, hr⟩ := hx
  rcases hr with ⟨h0, _⟩ | ⟨b, o, c, hv, hmc, hl⟩
  · omega
  · have hb := fun w => Gk (P := P) (isS := true) (len := len) (cap := c) (i := i) (j := j) (m := m) (lo := some (.int k1 (i : Int))) (hi := some (.int k2 (j : Int))) (mx := some (.int k3 (m : Int))) (.inr ⟨_, rfl⟩) (.inr ⟨_, rfl⟩) (.inr ⟨⟨_, rfl⟩, by simp⟩) (by omega) (by omega) (by omega) w
    refine ⟨.slice (some (if m = i then ⟨b, o, none⟩ else (⟨b, o, none⟩ : Addr).add (i * sz))) (j - i) (m - i), fun w => ?_, ?_⟩
    · simp only [execOp, Instr.sliceAt, Instr.slice, Sem.run_bind, Sem.run_pure, run_underlying (Dq he), Result.andThen_ok, hv, hb, Cs hs, Option.map_some, h1, h2, h3] <;> (try split) <;> rfl
    · simp only [VR]
      refine ⟨fun q => u (i + q), fun q hq => hu _ (by omega), .inr ⟨b, o + i * sz, m - i, by rw [if_neg (by omega), D5], by omega, fun q hq => ?_⟩⟩
      have := hl (i + q) (by omega)
      refine ⟨this.1, ?_⟩
      rw [show o + i * sz + q * sz = o + (i + q) * sz by rw [Nat.add_mul]; omega]
      exact this.2
end
end Sv
end Go.Proofs.YtlmloohlmlahfaaGreatDoor
end
section
namespace Go.Proofs.YtlmloohlmlahfaaGreatDoor
open Go Go.RowKit
namespace Sv
attribute [local irreducible] SW SO Bn
set_option maxHeartbeats 400000
set_option maxRecDepth 100000
theorem Q9t : Au Tryz.prog 86 := Ay Tryz.func86 (by kernel_rfl) rfl
theorem Sz : Au Tryz.prog 84 := Ay Tryz.func84 (by kernel_rfl) rfl
theorem Q9w : Au Tryz.prog 81 := Ay Tryz.func81 (by kernel_rfl) rfl
theorem Q9v : Au Tryz.prog 82 := Ay Tryz.func82 (by kernel_rfl) rfl
theorem Q9s : Au Tryz.prog 87 := Ay Tryz.func87 (by kernel_rfl) rfl
theorem Q9r : Au Tryz.prog 89 := Ay Tryz.func89 (by kernel_rfl) rfl
theorem Rm {p : PkgT} {n : Nat} (h : p.size ≤ n) : p.evr.length ≤ n ∧ p.obsoletes.length ≤ n ∧ ∀ i, i < p.obsoletes.length → (nth p.obsoletes i).size ≤ n := by
 have hz := p.sizes
 have h1 := Dr p.obsoletes
 unfold PkgT.depSize at hz
 refine ⟨by omega, by omega, fun i hi => ?_⟩
 have h2 := Kh (l := p.obsoletes) (i := i) hi
 omega
theorem Q19 (l : List Int) (v : Int) : (l.any fun x => decide (v = x)) = decide (v ∈ l) := by
 rw [Bool.eq_iff_iff]; simp
theorem Q6z {st : PoolT} (hi : IdxOk st) {d : DepT} : (Et Ab st d).1.length ≤ 4611686018427387904 := by
 unfold Et
 split
 ·exact Xx hi
 ·simp
theorem Pa {x : Int} (h : 0 ≤ x) : x = ((x.toNat : Nat) : Int) := by omega
theorem Q8b  :
  FnV Tryz.prog 86 [] (Af [4, 5, 3]) := by
 refine A4 [.tmp 0] Tryz.func86 rfl Tryz.ntmps86 rfl rfl (fun B F hF => ?_)
 refine Aa [] [] ?_
 refine Aa [] [1] ?_
 refine Ad ?_
 refine Ap ?_
 refine Bq 1 0 [] [3] [] hk0 v0 c0 ?_
 refine T9 3 (y := ⟨[(3, (.row 1 4 (fun ix => (Em 1 4 [(.int .i64 4), (.int .i64 5), (.int .i64 3), (.int .i64 6)]).getD ix Bm)))], [], 1⟩) (by kernel_rfl) ?_
 refine Fu 3 (Af [4, 5, 3, 6]) (by kernel_rfl) (Imp.list (f := AV.int .i64) rfl) ?_
 refine L7 (s' := [(3, (Af [4, 5, 3, 6])), (4, (.row 1 (3 - 0) (fun kx => I0 (Af [4, 5, 3, 6]) (0 + kx))))]) (.row 1 (3 - 0) (fun kx => I0 (Af [4, 5, 3, 6]) (0 + kx))) (by kernel_rfl) (Q4m (k1 := .i64) (k2 := .i64) (k3 := .i64) (e := 3) (i := 0) (j := 3) (m := 3) (len := [4, 5, 3, 6].length) (gf := I0 (Af [4, 5, 3, 6])) (by kernel_rfl) (by kernel_rfl) (by kernel_rfl) (by kernel_rfl) (by kernel_rfl) (by kernel_rfl) (by decide) (by decide) (by simp)) (by kernel_rfl) ?_
 refine Av 2 [] [0] [] hk0 v0 c0 ?_
 refine Ag ?_
 refine RK wR [(.row 1 (3 - 0) (fun kx => I0 (Af [4, 5, 3, 6]) (0 + kx)))] ?_
 simp only [Ak]
 exact (Imp.row fun i hi => Imp.of_eq (by rcases (by simpa using hi : i < 3) with h; rcases (by omega : i = 0 ∨ i = 1 ∨ i = 2) with rfl | rfl | rfl <;> rfl)).same
theorem So (l : List Int) (a : AV) (p : Int → Bool) (hl : l.length ≤ 4611686018427387904) (ha : ∀ i, i < l.length → FunV Tryz.prog a [.int .i64 (nth l i)] (.bool (p (nth l i)))) :
  FnV Tryz.prog 84 [(Af l), (.int .i64 (-1)), (.clo a)] (.int .i64 (B8 p l)) := by
 have hle := Li p l
 refine A4 [.tmp 6] Tryz.func84 rfl Tryz.ntmps84 rfl rfl (fun B F hF => ?_)
 refine Aa [] [0, 1, 2] ?_
 refine Ad ?_
 refine Ah [] [0, 1, 7] [] (hk 2 Q0s (Yr l a p hl ha) <| hk0) v0 c0 ?_
 refine Aa [] [0, 1, 7, 12] ?_
 refine A6 (p := 0 ≤ (Bz p l)) (by kernel_rfl) (fun c1 => ?_) (fun c1 => ?_)
 ·refine Ah [] [6] [] hk0 v0 (cc 2 (p := (0 ≤ Bz p l ∧ (Bz p l : Int).toNat < l.length)) (by omega) <| c0) ?_
  refine Ag ?_
  refine RK wR [(.int .i64 (nth l ((Bz p l : Int).toNat)))] ?_
  exact Same.of_eq (by simp only [Ak]; unfold B8; rw [if_pos (by simp_all)])
 ·refine Ai ?_
  refine Aa [] [6] ?_
  refine Ag ?_
  refine RK wR [(.int .i64 (-1))] ?_
  exact Same.of_eq (by simp only [Ak]; unfold B8; rw [if_neg (by simp_all)])
theorem Q6y (st : PoolT) (id : Int) :
  FnV Tryz.prog 81 [(.int .i64 id), (.fp (.agg [(.fp (Bo st))]))] (.bool (Ed st id)) := by
 refine A4 [.tmp 3] Tryz.func81 rfl Tryz.ntmps81 rfl rfl (fun B F hF => ?_)
 refine Aa [] [0, 1] ?_
 obtain ⟨b1, hb1⟩ : ∃ b, b = (decide (id < 0)) := ⟨_, rfl⟩
 refine Ah (CS := [(5, (!b1) = true → (!b1) = true), (6, ((!b1) = true → (!b1) = true ∧ (!b1) = true)), (7, (b1 = false → (!b1) = true))]) [7, 8, 10] [3] [] (hkg 5 (!b1) Z7 (fun cg => Q3i st) <| hk0) (vk 3 6 (a := .bool (decide (id < 0))) (b := .bool b1) (Imp.of_eq (by rw [hb1])) <| v0) (by refine cc _ ?_ <| cc _ ?_ <| cc _ ?_ c0 <;> simp) ?_
 refine Ag ?_
 refine RK wR [(.bool (b1 || (decide ((st.all.length : Int) ≤ id))))] ?_
 subst hb1
 exact Same.of_eq (by simp only [Ak]; rfl)
theorem Q7f (st : PoolT) (hi : IdxOk st) (id : Int) (o : Nat) (ho : o < st.all.length) :
  FnV Tryz.prog 82 [(.int .i64 ((o : Int))), (.fp (.agg [(.fp (Bo st))])), (.fp (As ((nth st.all id.toNat).1)))] (.bool (Ct st id (o : Int))) := by
 refine A4 [.tmp 4] Tryz.func82 rfl Tryz.ntmps82 rfl rfl (fun B F hF => ?_)
 refine Aa [] [0, 1, 2] ?_
 refine Ah [] [2, 5] [(9, 5)] (hk 2 Kd (Kn st o ho (hi.2 o ho)) <| hk0) v0 c0 ?_
 refine Aa [] [4] ?_
 refine Ag ?_
 refine RK wR [(.bool (decide (((nth st.all o).1).name = ((nth st.all id.toNat).1).name)))] ?_
 exact Same.of_eq (by simp only [Ak]; rfl)
theorem Q61 (st : PoolT) (hi : IdxOk st) (id : Int) (d : DepT) (hd : d.size ≤ 4194304) :
  FnV Tryz.prog 89 [(.agg [(.int .i64 d.kind), (.str d.name), (.int .i64 d.op), (.str d.evr), (.row 5 d.args.length (depAt d.args))]), (.fp (.agg [(.fp (A3 st))])), (.fp (.agg [(.int .i64 id)]))] (.bool (decide (id ∈ (Et Ab st d).1))) := by
 refine A4 [.tmp 4] Tryz.func89 rfl Tryz.ntmps89 rfl rfl (fun B F hF => ?_)
 refine Ah [] [1, 2, 3] [(1, 3)] hk0 v0 c0 ?_
 refine Ah [] [2, 5] [] (hk 2 X03 (X43 Ab X9 st hi d hd) <| hk0) v0 c0 ?_
 refine Ah [] [4] [] (hk 2 S0 ((Tm (Et Ab st d).1 id (Q6z hi)).to (Same.of_eq (by rw [Q19]))) <| hk0) v0 c0 ?_
 refine Ag ?_
 refine RK wR [(.bool (decide (id ∈ (Et Ab st d).1)))] ?_
 exact Same.of_eq (by first | rfl | (simp only [Ak]; simp_all))
theorem Q62 (st : PoolT) (hi : IdxOk st) (id : Int) (d : DepT) (hd : d.size ≤ 4194304) : FunV Tryz.prog (.fn 89 [] [.fp (.agg [(.fp (A3 st))]), .fp (.agg [.int .i64 id])]) [(.agg [(.int .i64 (d.kind)), (.str (d.name)), (.int .i64 (d.op)), (.str (d.evr)), (.row 5 d.args.length (depAt d.args))])] (.bool (decide (id ∈ (Et Ab st d).1))) := FunV.of (by exact Q9r) (Q61 st hi id d hd)
theorem Q63 (st : PoolT) (hi : IdxOk st) (id : Int) (o : Nat) (ho : o < st.all.length) :
  FnV Tryz.prog 87 [(.int .i64 ((o : Int))), (.fp (.agg [(.fp (Bo st))])), (.fp (.agg [(.fp (A3 st))])), (.fp (.agg [(.int .i64 id)]))] (.bool (G2 Ab st id (o : Int))) := by
 have hlz := Rm (hi.2 o ho)
 refine A4 [.tmp 5] Tryz.func87 rfl Tryz.ntmps87 rfl rfl (fun B F hF => ?_)
 refine Aa [] [0, 1, 2, 3] ?_
 refine Ah [] [2, 3, 6] [(9, 6)] (hk 2 Kd (Kn st o ho (hi.2 o ho)) <| hk0) v0 c0 ?_
 refine Ad ?_
 refine Ap ?_
 refine Bq 3 0 [] [17, 18] [] hk0 v0 c0 ?_
 refine Iu (s' := [(17, (Ac 5 Al (((nth st.all o).1).obsoletes))), (18, (.fn 89 [] [(.fp (.agg [(.fp (A3 st))])), (.fp (.agg [(.int .i64 id)]))])), (19, (.bool ((nth st.all o).1.obsoletes.any fun d => decide (id ∈ (Et Ab st d).1))))]) (al := [(Ac 5 Al (((nth st.all o).1).obsoletes)), (.fn 89 [] [(.fp (.agg [(.fp (A3 st))])), (.fp (.agg [(.int .i64 id)]))])]) (al' := [(Ac 5 Al (((nth st.all o).1).obsoletes)), (.fn 89 [] [(.fp (.agg [(.fp (A3 st))])), (.fp (.agg [(.int .i64 id)]))])]) (h' := []) (r := (.bool ((nth st.all o).1.obsoletes.any fun d => decide (id ∈ (Et Ab st d).1)))) (by kernel_rfl) (by exact Pm) (by kernel_rfl) (by kernel_rfl) ((Px (nth st.all o).1.obsoletes (.fn 89 [] [(.fp (.agg [(.fp (A3 st))])), (.fp (.agg [(.int .i64 id)]))]) (fun d => decide (id ∈ (Et Ab st d).1)) (by omega) (fun i hj => Q62 st hi id _ (hlz.2.2 i hj))).of_args (ImpL.cons Imp.refl (ImpL.cons (Imp.clo (by kernel_rfl)) ImpL.nil))) rfl (by kernel_rfl) ?_
 refine Av 4 [] [5] [] hk0 v0 c0 ?_
 refine Ag ?_
 refine RK wR [(.bool ((nth st.all o).1.obsoletes.any fun d => decide (id ∈ (Et Ab st d).1)))] ?_
 exact Same.of_eq (by simp only [Ak]; rfl)
theorem Xl (st : PoolT) (id : Int) : FunV Tryz.prog (.fn 81 [] [.fp (.agg [(.fp (Bo st))])]) [.int .i64 id] (.bool (Ed st id)) := FunV.of (by exact Q9w) (Q6y st id)
theorem Xz (st : PoolT) (hi : IdxOk st) (id o : Int) (ho : 0 ≤ o ∧ o < st.all.length) : FunV Tryz.prog (.fn 82 [] [.fp (.agg [(.fp (Bo st))]), .fp (As ((nth st.all id.toNat).1))]) [.int .i64 o] (.bool (Ct st id o)) := by
 obtain ⟨n, rfl⟩ := Int.eq_ofNat_of_zero_le ho.1
 exact FunV.of (by exact Q9v) (Q7f st hi id n (by omega))
theorem Q64 (st : PoolT) (hi : IdxOk st) (id o : Int) (ho : 0 ≤ o ∧ o < st.all.length) : FunV Tryz.prog (.fn 87 [] [.fp (.agg [(.fp (Bo st))]), .fp (.agg [(.fp (A3 st))]), .fp (.agg [.int .i64 id])]) [.int .i64 o] (.bool (G2 Ab st id o)) := by
 obtain ⟨n, rfl⟩ := Int.eq_ofNat_of_zero_le ho.1
 exact FunV.of (by exact Q9s) (Q63 st hi id n (by omega))
end Sv
end Go.Proofs.YtlmloohlmlahfaaGreatDoor
end
section
namespace Go.Proofs.YtlmloohlmlahfaaGreatDoor
open Go Go.RowKit
namespace Sv
attribute [local irreducible] SW SO Bn
set_option maxHeartbeats 2000000
set_option maxRecDepth 100000
theorem Q9u : Au Tryz.prog 85 := Ay Tryz.func85 (by kernel_rfl) rfl
theorem Q0a : Au Tryz.prog 28 := Ay Tryz.func28 (by kernel_rfl) rfl
theorem Z9 : Au Tryz.prog 29 := Ay Tryz.func29 (by kernel_rfl) rfl
def A2 (q : Bk) : AV := .agg [.int .i64 q.1, .int .i64 q.2.1, .int .i64 q.2.2]
theorem Mh {u : List Int} {f : Int → Bk} {i : Nat} {x : Bk} (h : i < u.length) (e : f (nth u i) = x) : ((u.take (i + 1)).map f).map A2 = ((u.take i).map f).map A2 ++ [A2 x] := by
 rw [H4 h, List.map_append, List.map_append]
 simp [e]
theorem Tz {l : List Int} {q : List Bk} {i : Nat} (h : i < q.length) : Ar l (q.take (i + 1)) = D4 (Ar l (q.take i)) (nth q i) := by rw [H4 h, Q16]
theorem P6 {st : PoolT} {l : List Int} (h : ¬ l.any (Ed st) = true) : ∀ x ∈ l, 0 ≤ x ∧ x < st.all.length := by
 intro x hx
 have h : l.any (Ed st) = false := by simpa using h
 rw [List.any_eq_false] at h
 have := h x hx
 unfold Ed at this
 simp at this
 omega
theorem Mw {l : List Int} {i : Nat} (h : i < l.length) : nth l i ∈ l := by rw [Fk h]; exact List.getElem_mem h
theorem X8 {l : List Int} {x : Int} (h : x ∈ l) : ∃ i, i < l.length ∧ nth l i = x := by
 obtain ⟨i, hi, e⟩ := List.getElem_of_mem h
 exact ⟨i, hi, by rw [Fk hi, e]⟩
theorem X1 {st : PoolT} {a b : List Int} (h : ∀ x ∈ a, 0 ≤ x ∧ x < st.all.length) : ∀ j, j < (Ae a b).length → 0 ≤ nth (Ae a b) j ∧ nth (Ae a b) j < st.all.length := fun j hj => h _ (minusZ_mem.1 (Mw hj)).1
theorem Q3x {st : PoolT} {a b : List Int} (h : ∀ j, j < a.length → 0 ≤ nth a j ∧ nth a j < st.all.length) (k : ∀ j, j < b.length → 0 ≤ nth b j ∧ nth b j < st.all.length) : ∀ j, j < (Aw a b).length → 0 ≤ nth (Aw a b) j ∧ nth (Aw a b) j < st.all.length := fun j hj => by
 rcases unionZ_mem.1 (Mw hj) with q | q
 ·obtain ⟨n, hn, e⟩ := X8 q
  rw [← e]; exact h n hn
 ·obtain ⟨n, hn, e⟩ := X8 q
  rw [← e]; exact k n hn
theorem Q9d {st : PoolT} {p : Int → Bool} {l : List Int} (h : ∀ j, j < l.length → 0 ≤ nth l j ∧ nth l j < st.all.length) (k : 0 ≤ B8 p l) : 0 ≤ B8 p l ∧ B8 p l < st.all.length := by
 unfold B8 at k ⊢
 have := Li p l
 split at k
 ·rename_i q
  rw [if_pos q]; exact h _ (by omega)
 ·omega
theorem X2 (a b : List Int) : (Ae a b).length ≤ a.length := Nat.le_trans (H5 _) (List.length_filter_le _ _)
theorem Uv (a b : List Int) : (Aw a b).length ≤ a.length + b.length := by have := H5 (a ++ b); rw [List.length_append] at this; exact this
theorem Q2z (st : PoolT) (hi : IdxOk st) (a b : List Int) (ha : a.length ≤ 2097152) (hb : b.length ≤ 2097152) :
  FnV Tryz.prog 28 [(.fp (Bo st)), (Af a), (Af b)] (.tup [Ac 3 A2 (Aj Ab st a b).1, .int .i64 (Aj Ab st a b).2]) := by
 have hcl := X2 b a
 have hgl := X2 a b
 have hul := Uv (Ae b a) (Ae a b)
 refine A4 [.tmp 6, .tmp 7] Tryz.func28 rfl Tryz.ntmps28 rfl rfl (fun B F hF => ?_)
 refine Ah [] [1, 2, 3] [(1, 3)] hk0 v0 c0 ?_
 refine Ad ?_
 refine Aa [] [1, 2, 3, 26] ?_
 refine Ei (by kernel_rfl) ?_
 refine Ai ?_
 refine Aa [] [1, 2, 3, 8] ?_
 refine Ad ?_
 refine Ad ?_
 refine Ap ?_
 refine Bq 2 0 [] [1, 2, 3, 8, 28, 29] [] hk0 v0 c0 ?_
 refine Iu (s' := [(1, (Af a)), (2, (Af b)), (3, (.fp (.agg [(.fp (Bo st))]))), (8, (.fn 81 [] [(.fp (.agg [(.fp (Bo st))]))])), (28, (Af a)), (29, (.fn 81 [] [(.fp (.agg [(.fp (Bo st))]))])), (30, (.bool (a.any (Ed st))))]) (al := [(Af a), (.fn 81 [] [(.fp (.agg [(.fp (Bo st))]))])]) (al' := [(Af a), (.fn 81 [] [(.fp (.agg [(.fp (Bo st))]))])]) (h' := []) (r := (.bool (a.any (Ed st)))) (by kernel_rfl) (by exact Pp) (by kernel_rfl) (by kernel_rfl) ((Pb a (.fn 81 [] [(.fp (.agg [(.fp (Bo st))]))]) (Ed st) (by omega) (fun j hj => Xl st _)).of_args (ImpL.cons Imp.refl (ImpL.cons (Imp.clo (by kernel_rfl)) ImpL.nil))) rfl (by kernel_rfl) ?_
 obtain ⟨b1, hb1⟩ : ∃ b, b = (a.any (Ed st)) := ⟨_, rfl⟩
 refine Bq 1 3 [] [1, 2, 3, 8, 31] [] hk0 v0 c0 ?_
 refine Fu 31 (a := .bool (a.any (Ed st))) (.bool b1) (by kernel_rfl) (Imp.of_eq (by rw [hb1])) ?_
 refine P3 b1 (fun c1 => ?_) (fun c1 => ?_)
 ·refine Fu 31 (a := .bool b1) (.bool true) (by kernel_rfl) (Imp.of_eq (by rw [c1])) ?_
  refine Av 4 [] [1, 2, 3, 35] [] hk0 v0 c0 ?_
  refine Gh (by kernel_rfl) ?_
  refine Aa [] [6, 7] ?_
  refine Ag ?_
  refine RK wR [.nils, (.int .i64 69)] ?_
  subst hb1
  simp only [Ak]
  rw [show Aj Ab st a b = ([], 69) from by unfold Aj; rw [if_pos (.inl c1)]]
  exact (Imp.tups (ImpL.cons Imp.nil (ImpL.cons Imp.refl ImpL.nil))).same
 ·refine Fu 31 (a := .bool b1) (.bool false) (by kernel_rfl) (Imp.of_eq (by rw [c1])) ?_
  refine Bq 2 4 [] [1, 2, 3, 31, 32, 33] [] hk0 v0 c0 ?_
  refine Iu (s' := [(1, (Af a)), (2, (Af b)), (3, (.fp (.agg [(.fp (Bo st))]))), (31, (.bool false)), (32, (Af b)), (33, (.fn 81 [] [(.fp (.agg [(.fp (Bo st))]))])), (34, (.bool (b.any (Ed st))))]) (al := [(Af b), (.fn 81 [] [(.fp (.agg [(.fp (Bo st))]))])]) (al' := [(Af b), (.fn 81 [] [(.fp (.agg [(.fp (Bo st))]))])]) (h' := []) (r := (.bool (b.any (Ed st)))) (by kernel_rfl) (by exact Pp) (by kernel_rfl) (by kernel_rfl) ((Pb b (.fn 81 [] [(.fp (.agg [(.fp (Bo st))]))]) (Ed st) (by omega) (fun j hj => Xl st _)).of_args (ImpL.cons Imp.refl (ImpL.cons (Imp.clo (by kernel_rfl)) ImpL.nil))) rfl (by kernel_rfl) ?_
  refine Av 7 [] [1, 2, 3, 35] [] hk0 v0 c0 ?_
  refine Bd (q := b.any (Ed st)) (by kernel_rfl) (fun c2 => ?_) (fun c2 => ?_)
  ·subst hb1
   try simp only [Ao] at c2
   refine Aa [] [6, 7] ?_
   refine Ag ?_
   refine RK wR [.nils, (.int .i64 69)] ?_
   simp only [Ak]
   rw [show Aj Ab st a b = ([], 69) from by unfold Aj; rw [if_pos (.inr c2)]]
   exact (Imp.tups (ImpL.cons Imp.nil (ImpL.cons Imp.refl ImpL.nil))).same
  ·subst hb1
   try simp only [Ao] at c2
   have hra := P6 (st := st) (l := a) (by rw [c1]; simp)
   have hrb := P6 (st := st) (l := b) (by rw [c2]; simp)
   have hcr := X1 (b := a) hrb
   have hgr := X1 (b := b) hra
   have hur := Q3x hcr hgr
   refine Ai ?_
   refine Ah [] [3, 9, 10] [] (hk 2 Ng (M7 b a (by omega) (by first | omega | simp)) <| hk 5 Ng (M7 a b (by omega) (by first | omega | simp)) <| hk0) v0 c0 ?_
   refine Ah [] [3, 9, 10, 11] [] (hk 1 Q0x (Wa st hi.1 hi.2) <| hk0) v0 c0 ?_
   refine Ah [] [3, 9, 10, 11, 12] [(0, 11)] hk0 v0 c0 ?_
   refine Ad ?_
   refine Ah [] [3, 9, 10, 11, 12, 46, 47, 48] [] (hk 2 S3 (Sg (Ae b a) (Ae a b) (by omega) (by first | omega | simp)) <| hk0) v0 c0 ?_
   refine A1 ?_
   refine Qd 66 3 12 (y := ⟨[(3, (.fp (.agg [(.fp (Bo st))]))), (9, (Af (Ae b a))), (10, (Af (Ae a b))), (11, (.fp (.agg [(.fp (A3 st))]))), (12, (.own 2)), (46, (Af (Aw (Ae b a) (Ae a b)))), (47, (.int .i64 (((Aw (Ae b a) (Ae a b)).length : Int)))), (48, (.int .i64 0))], [(2, (.grow [] 66 3))], 3⟩) (by kernel_rfl) (by kernel_rfl) ?_
   refine Bv (fun g y => ∃ (i : Nat), i ≤ (Aw (Ae b a) (Ae a b)).length ∧ y = ⟨[(3, (.fp (.agg [(.fp (Bo st))]))), (9, (Af (Ae b a))), (10, (Af (Ae a b))), (11, (.fp (.agg [(.fp (A3 st))]))), (12, (.own 2)), (46, (Af (Aw (Ae b a) (Ae a b)))), (47, (.int .i64 (((Aw (Ae b a) (Ae a b)).length : Int)))), (48, (.int .i64 ((i : Int))))], [(2, (.grow ((((Aw (Ae b a) (Ae a b)).take i).map (B9 Ab st (Ae b a) (Ae a b))).map A2) 66 3))], 3⟩ ∧ g = (Aw (Ae b a) (Ae a b)).length - i) [3, 9, 10, 11, 12, 46, 47, 48] 3 _ (by omega) ⟨0, (by omega), (by kernel_rfl), rfl⟩ ?_
   rintro g1 y1 ⟨i, f1_1, rfl, rfl⟩
   refine Aa [] [3, 9, 10, 11, 12, 46, 47, 48, 49] ?_
   refine Ad ?_
   refine A6 (p := (i : Int) < ((Aw (Ae b a) (Ae a b)).length : Int)) (by kernel_rfl) (fun c3 => ?_) (fun c3 => ?_)
   ·have hui := hur i (by omega)
    have hpl := Rm (hi.2 (nth (Aw (Ae b a) (Ae a b)) i).toNat (by omega))
    refine Ai ?_
    refine Ad ?_
    refine A1 ?_
    refine Ah [] [3, 9, 10, 11, 12, 14, 46, 47, 48] [] hk0 v0 (cc 0 (p := (0 ≤ (i : Int) ∧ i < (Aw (Ae b a) (Ae a b)).length)) (by omega) <| c0) ?_
    refine Ah [] [3, 9, 10, 11, 12, 14, 15, 46, 47, 48] [(0, 14), (9, 15)] (hk 2 (al := [(.fp (Bo st)), (.int .i64 (nth (Aw (Ae b a) (Ae a b)) i))]) Kd ((Kn st (nth (Aw (Ae b a) (Ae a b)) i).toNat (by omega) (hi.2 _ (by omega))).of_args (ImpL.cons Imp.refl (ImpL.cons (Imp.of_eq (congrArg (AV.int .i64) (Pa hui.1))) ImpL.nil))) <| hk0) v0 c0 ?_
    refine Aa [] [3, 9, 10, 11, 12, 14, 15, 18, 46, 47, 48] ?_
    refine Aa [] [3, 9, 10, 11, 12, 14, 15, 18, 19, 46, 47, 48] ?_
    refine Ad ?_
    refine Ah [] [3, 9, 10, 11, 12, 14, 15, 18, 19, 46, 47, 48, 64] [] (hk 2 S0 ((Tm (Ae b a) (nth (Aw (Ae b a) (Ae a b)) i) (by omega)).to (Same.of_eq (by rw [Q19]))) <| hk0) v0 c0 ?_
    refine A6 (p := nth (Aw (Ae b a) (Ae a b)) i ∈ (Ae b a)) (by kernel_rfl) (fun c4 => ?_) (fun c4 => ?_)
    ·refine Aa [] [3, 9, 10, 11, 12, 15, 18, 19, 46, 47, 48] ?_
     refine Ad ?_
     refine Ah [] [3, 9, 10, 11, 12, 15, 19, 46, 47, 48] [] (hk 2 (al := [(Af (Ae a b)), (.int .i64 (-1)), (.fn 82 [] [(.fp (.agg [(.fp (Bo st))])), (.fp (As ((nth st.all ((nth (Aw (Ae b a) (Ae a b)) i).toNat)).1)))])]) Sz ((So (Ae a b) (.fn 82 [] [(.fp (.agg [(.fp (Bo st))])), (.fp (As ((nth st.all ((nth (Aw (Ae b a) (Ae a b)) i).toNat)).1)))]) (Ct st (nth (Aw (Ae b a) (Ae a b)) i)) (by omega) (fun j hj => Xz st hi (nth (Aw (Ae b a) (Ae a b)) i) _ (hgr j hj))).of_args (ImpL.cons Imp.refl (ImpL.cons Imp.refl (ImpL.cons (Imp.clo (by kernel_rfl)) ImpL.nil)))) <| hk0) v0 c0 ?_
     refine Aa [] [3, 9, 10, 11, 12, 15, 19, 46, 47, 48, 72] ?_
     refine A6 (p := 0 ≤ (B8 (Ct st (nth (Aw (Ae b a) (Ae a b)) i)) (Ae a b))) (by kernel_rfl) (fun c5 => ?_) (fun c5 => ?_)
     ·have hfo := Q9d hgr c5
      have hpo := Rm (hi.2 (B8 (Ct st (nth (Aw (Ae b a) (Ae a b)) i)) (Ae a b)).toNat (by omega))
      have hcm := Q1e st.kind (nth st.all (nth (Aw (Ae b a) (Ae a b)) i).toNat).1.evr (nth st.all (B8 (Ct st (nth (Aw (Ae b a) (Ae a b)) i)) (Ae a b)).toNat).1.evr
      unfold Sgn at hcm
      refine Ah [] [3, 9, 10, 11, 12, 15, 19, 20, 46, 47, 48] [(10, 20)] (hk 3 (al := [(.fp (Bo st)), (.int .i64 ((B8 (Ct st (nth (Aw (Ae b a) (Ae a b)) i)) (Ae a b))))]) Kd ((Kn st (B8 (Ct st (nth (Aw (Ae b a) (Ae a b)) i)) (Ae a b)).toNat (by omega) (hi.2 _ (by omega))).of_args (ImpL.cons Imp.refl (ImpL.cons (Imp.of_eq (congrArg (AV.int .i64) (Pa hfo.1))) ImpL.nil))) <| hk0) v0 c0 ?_
      refine Cq [] [3, 9, 10, 11, 12, 19, 23, 46, 47, 48] [] (hk 1 Z8 (Q3j st) <| hk 6 Q9u (X15 st.kind (((nth st.all ((nth (Aw (Ae b a) (Ae a b)) i).toNat)).1).evr) (((nth st.all ((B8 (Ct st (nth (Aw (Ae b a) (Ae a b)) i)) (Ae a b)).toNat)).1).evr) (by omega) (by omega)) <| hk0) v0 c0 ?_
      refine Ap ?_
      refine Av (CS := [(2, (-9223372036854775808 ≤ ((Fs st.kind (((nth st.all ((nth (Aw (Ae b a) (Ae a b)) i).toNat)).1).evr) (((nth st.all ((B8 (Ct st (nth (Aw (Ae b a) (Ae a b)) i)) (Ae a b)).toNat)).1).evr)).1) + 1 ∧ ((Fs st.kind (((nth st.all ((nth (Aw (Ae b a) (Ae a b)) i).toNat)).1).evr) (((nth st.all ((B8 (Ct st (nth (Aw (Ae b a) (Ae a b)) i)) (Ae a b)).toNat)).1).evr)).1) + 1 ≤ 9223372036854775807)), (3, (0 ≤ ((Fs st.kind (((nth st.all ((nth (Aw (Ae b a) (Ae a b)) i).toNat)).1).evr) (((nth st.all ((B8 (Ct st (nth (Aw (Ae b a) (Ae a b)) i)) (Ae a b)).toNat)).1).evr)).1) + 1 ∧ (((Fs st.kind (((nth st.all ((nth (Aw (Ae b a) (Ae a b)) i).toNat)).1).evr) (((nth st.all ((B8 (Ct st (nth (Aw (Ae b a) (Ae a b)) i)) (Ae a b)).toNat)).1).evr)).1) + 1).toNat < [4, 5, 3].length))]) 0 [] [3, 9, 10, 11, 12, 19, 46, 47, 48] [] (hk 0 Q9t Q8b <| hk0) v0 (by refine cc _ ?_ <| cc _ ?_ c0 <;> (intros; simp_all; omega)) ?_
      refine Ah [] [3, 9, 10, 11, 12, 46, 47, 48] [] hk0 v0 (cc 3 (p := ((((((Aw (Ae b a) (Ae a b)).take i).map (B9 Ab st (Ae b a) (Ae a b))).map A2).length + 1) * 24 ≤ 140737488355328)) (by (simp; omega)) <| c0) ?_
      refine Br ?_
      refine Ap ?_
      refine Av 0 [] [3, 9, 10, 11, 12, 46, 47, 48] [] hk0 v0 (cc 0 (p := (-9223372036854775808 ≤ (i : Int) + 1 ∧ (i : Int) + 1 ≤ 9223372036854775807)) (by omega) <| c0) ?_
      refine ⟨by kernel_rfl, _, ?_, i + 1, ?_, (Eq.trans (b := (⟨[(3, (.fp (.agg [(.fp (Bo st))]))), (9, (Af (Ae b a))), (10, (Af (Ae a b))), (11, (.fp (.agg [(.fp (A3 st))]))), (12, (.own 2)), (46, (Af (Aw (Ae b a) (Ae a b)))), (47, (.int .i64 (((Aw (Ae b a) (Ae a b)).length : Int)))), (48, (.int .i64 ((i : Int) + 1)))], [(2, (.grow (((((Aw (Ae b a) (Ae a b)).take i).map (B9 Ab st (Ae b a) (Ae a b))).map A2) ++ ([(.agg [(.int .i64 (nth [4, 5, 3] ((((Fs st.kind (((nth st.all ((nth (Aw (Ae b a) (Ae a b)) i).toNat)).1).evr) (((nth st.all ((B8 (Ct st (nth (Aw (Ae b a) (Ae a b)) i)) (Ae a b)).toNat)).1).evr)).1) + 1).toNat))), (.int .i64 (nth (Aw (Ae b a) (Ae a b)) i)), (.int .i64 ((B8 (Ct st (nth (Aw (Ae b a) (Ae a b)) i)) (Ae a b))))])] : List AV)) 66 3))], 3⟩ : St)) (by kernel_rfl) (by rw [Mh (x := (nth [4, 5, 3] ((Fs st.kind (nth st.all (nth (Aw (Ae b a) (Ae a b)) i).toNat).1.evr (nth st.all (B8 (Ct st (nth (Aw (Ae b a) (Ae a b)) i)) (Ae a b)).toNat).1.evr).1 + 1).toNat, (nth (Aw (Ae b a) (Ae a b)) i), (B8 (Ct st (nth (Aw (Ae b a) (Ae a b)) i)) (Ae a b)))) (f := (B9 Ab st (Ae b a) (Ae a b))) (by omega) (by unfold B9 Nk; rw [if_pos c4, if_pos c5]; rfl)] <;> kernel_rfl)), rfl⟩
      ·omega
      ·omega
     ·refine Ai ?_
      refine Ah [] [3, 9, 10, 11, 12, 46, 47, 48] [] hk0 v0 (cc 3 (p := ((((((Aw (Ae b a) (Ae a b)).take i).map (B9 Ab st (Ae b a) (Ae a b))).map A2).length + 1) * 24 ≤ 140737488355328)) (by (simp; omega)) <| c0) ?_
      refine Br ?_
      refine Ap ?_
      refine Av 0 [] [3, 9, 10, 11, 12, 46, 47, 48] [] hk0 v0 (cc 0 (p := (-9223372036854775808 ≤ (i : Int) + 1 ∧ (i : Int) + 1 ≤ 9223372036854775807)) (by omega) <| c0) ?_
      refine ⟨by kernel_rfl, _, ?_, i + 1, ?_, (Eq.trans (b := (⟨[(3, (.fp (.agg [(.fp (Bo st))]))), (9, (Af (Ae b a))), (10, (Af (Ae a b))), (11, (.fp (.agg [(.fp (A3 st))]))), (12, (.own 2)), (46, (Af (Aw (Ae b a) (Ae a b)))), (47, (.int .i64 (((Aw (Ae b a) (Ae a b)).length : Int)))), (48, (.int .i64 ((i : Int) + 1)))], [(2, (.grow (((((Aw (Ae b a) (Ae a b)).take i).map (B9 Ab st (Ae b a) (Ae a b))).map A2) ++ ([(.agg [(.int .i64 1), (.int .i64 (nth (Aw (Ae b a) (Ae a b)) i)), (.int .i64 ((B8 (Ct st (nth (Aw (Ae b a) (Ae a b)) i)) (Ae a b))))])] : List AV)) 66 3))], 3⟩ : St)) (by kernel_rfl) (by rw [Mh (x := (1, (nth (Aw (Ae b a) (Ae a b)) i), (B8 (Ct st (nth (Aw (Ae b a) (Ae a b)) i)) (Ae a b)))) (f := (B9 Ab st (Ae b a) (Ae a b))) (by omega) (by unfold B9 Nk; rw [if_pos c4, if_neg c5])] <;> kernel_rfl)), rfl⟩
      ·omega
      ·omega
    ·refine Ai ?_
     refine Aa [] [3, 9, 10, 11, 12, 14, 18, 19, 46, 47, 48] ?_
     refine Ad ?_
     refine Ah [] [3, 9, 10, 11, 12, 14, 19, 46, 47, 48] [] (hk 2 (al := [(Af (Ae b a)), (.int .i64 (-1)), (.fn 82 [] [(.fp (.agg [(.fp (Bo st))])), (.fp (As ((nth st.all ((nth (Aw (Ae b a) (Ae a b)) i).toNat)).1)))])]) Sz ((So (Ae b a) (.fn 82 [] [(.fp (.agg [(.fp (Bo st))])), (.fp (As ((nth st.all ((nth (Aw (Ae b a) (Ae a b)) i).toNat)).1)))]) (Ct st (nth (Aw (Ae b a) (Ae a b)) i)) (by omega) (fun j hj => Xz st hi (nth (Aw (Ae b a) (Ae a b)) i) _ (hcr j hj))).of_args (ImpL.cons Imp.refl (ImpL.cons Imp.refl (ImpL.cons (Imp.clo (by kernel_rfl)) ImpL.nil)))) <| hk0) v0 c0 ?_
     refine Aa [] [3, 9, 10, 11, 12, 14, 19, 46, 47, 48, 108] ?_
     refine A6 (p := (B8 (Ct st (nth (Aw (Ae b a) (Ae a b)) i)) (Ae b a)) < 0) (by kernel_rfl) (fun c6 => ?_) (fun c6 => ?_)
     ·refine Aa [] [3, 9, 10, 11, 12, 14, 19, 46, 47, 48] ?_
      refine Ap ?_
      refine Av 0 [] [3, 9, 10, 11, 12, 19, 46, 47, 48] [] (hk 2 (al := [(Af (Ae b a)), (.int .i64 (-1)), (.fn 87 [] [(.fp (.agg [(.fp (Bo st))])), (.fp (.agg [(.fp (A3 st))])), (.fp (.agg [(.int .i64 (nth (Aw (Ae b a) (Ae a b)) i))]))])]) Sz ((So (Ae b a) (.fn 87 [] [(.fp (.agg [(.fp (Bo st))])), (.fp (.agg [(.fp (A3 st))])), (.fp (.agg [(.int .i64 (nth (Aw (Ae b a) (Ae a b)) i))]))]) (G2 Ab st (nth (Aw (Ae b a) (Ae a b)) i)) (by omega) (fun j hj => Q64 st hi (nth (Aw (Ae b a) (Ae a b)) i) _ (hcr j hj))).of_args (ImpL.cons Imp.refl (ImpL.cons Imp.refl (ImpL.cons (Imp.clo (by kernel_rfl)) ImpL.nil)))) <| hk0) v0 c0 ?_
      refine Ad ?_
      refine Aa [] [3, 9, 10, 11, 12, 19, 46, 47, 48, 116] ?_
      refine A6 (p := (B8 (G2 Ab st (nth (Aw (Ae b a) (Ae a b)) i)) (Ae b a)) < 0) (by kernel_rfl) (fun c7 => ?_) (fun c7 => ?_)
      ·refine Ap ?_
       refine Fv [] [3, 9, 10, 11, 12, 19, 46, 47, 48] ?_
       refine Ap ?_
       refine Av 0 [] [3, 9, 10, 11, 12, 46, 47, 48] [] hk0 v0 (cc 3 (p := ((((((Aw (Ae b a) (Ae a b)).take i).map (B9 Ab st (Ae b a) (Ae a b))).map A2).length + 1) * 24 ≤ 140737488355328)) (by (simp; omega)) <| c0) ?_
       refine Ap ?_
       refine Av 0 [] [3, 9, 10, 11, 12, 46, 47, 48] [] hk0 v0 (cc 0 (p := (-9223372036854775808 ≤ (i : Int) + 1 ∧ (i : Int) + 1 ≤ 9223372036854775807)) (by omega) <| c0) ?_
       refine ⟨by kernel_rfl, _, ?_, i + 1, ?_, (Eq.trans (b := (⟨[(3, (.fp (.agg [(.fp (Bo st))]))), (9, (Af (Ae b a))), (10, (Af (Ae a b))), (11, (.fp (.agg [(.fp (A3 st))]))), (12, (.own 2)), (46, (Af (Aw (Ae b a) (Ae a b)))), (47, (.int .i64 (((Aw (Ae b a) (Ae a b)).length : Int)))), (48, (.int .i64 ((i : Int) + 1)))], [(2, (.grow (((((Aw (Ae b a) (Ae a b)).take i).map (B9 Ab st (Ae b a) (Ae a b))).map A2) ++ ([(.agg [(.int .i64 2), (.int .i64 (nth (Aw (Ae b a) (Ae a b)) i)), (.int .i64 ((B8 (G2 Ab st (nth (Aw (Ae b a) (Ae a b)) i)) (Ae b a))))])] : List AV)) 66 3))], 3⟩ : St)) (by kernel_rfl) (by rw [Mh (x := (2, (nth (Aw (Ae b a) (Ae a b)) i), (B8 (G2 Ab st (nth (Aw (Ae b a) (Ae a b)) i)) (Ae b a)))) (f := (B9 Ab st (Ae b a) (Ae a b))) (by omega) (by unfold B9 goS; rw [if_neg c4, if_neg (by omega), if_neg (by omega)])] <;> kernel_rfl)), rfl⟩
       ·omega
       ·omega
      ·refine Ai ?_
       refine Ap ?_
       refine Av 0 [] [3, 9, 10, 11, 12, 46, 47, 48] [] hk0 v0 (cc 3 (p := ((((((Aw (Ae b a) (Ae a b)).take i).map (B9 Ab st (Ae b a) (Ae a b))).map A2).length + 1) * 24 ≤ 140737488355328)) (by (simp; omega)) <| c0) ?_
       refine Ap ?_
       refine Av 0 [] [3, 9, 10, 11, 12, 46, 47, 48] [] hk0 v0 (cc 0 (p := (-9223372036854775808 ≤ (i : Int) + 1 ∧ (i : Int) + 1 ≤ 9223372036854775807)) (by omega) <| c0) ?_
       refine ⟨by kernel_rfl, _, ?_, i + 1, ?_, (Eq.trans (b := (⟨[(3, (.fp (.agg [(.fp (Bo st))]))), (9, (Af (Ae b a))), (10, (Af (Ae a b))), (11, (.fp (.agg [(.fp (A3 st))]))), (12, (.own 2)), (46, (Af (Aw (Ae b a) (Ae a b)))), (47, (.int .i64 (((Aw (Ae b a) (Ae a b)).length : Int)))), (48, (.int .i64 ((i : Int) + 1)))], [(2, (.grow (((((Aw (Ae b a) (Ae a b)).take i).map (B9 Ab st (Ae b a) (Ae a b))).map A2) ++ ([(.agg [(.int .i64 7), (.int .i64 (nth (Aw (Ae b a) (Ae a b)) i)), (.int .i64 ((B8 (G2 Ab st (nth (Aw (Ae b a) (Ae a b)) i)) (Ae b a))))])] : List AV)) 66 3))], 3⟩ : St)) (by kernel_rfl) (by rw [Mh (x := (7, (nth (Aw (Ae b a) (Ae a b)) i), (B8 (G2 Ab st (nth (Aw (Ae b a) (Ae a b)) i)) (Ae b a)))) (f := (B9 Ab st (Ae b a) (Ae a b))) (by omega) (by unfold B9 goS; rw [if_neg c4, if_neg (by omega), if_pos (by omega)])] <;> kernel_rfl)), rfl⟩
       ·omega
       ·omega
     ·refine Ai ?_
      refine Ad ?_
      refine Aa [] [3, 9, 10, 11, 12, 19, 46, 47, 48, 116] ?_
      refine A6 (p := (B8 (Ct st (nth (Aw (Ae b a) (Ae a b)) i)) (Ae b a)) < 0) (by kernel_rfl) (fun c8 => ?_) (fun c8 => ?_)
      ·exfalso; omega
      ·refine Ai ?_
       refine Ap ?_
       refine Av 0 [] [3, 9, 10, 11, 12, 46, 47, 48] [] hk0 v0 (cc 3 (p := ((((((Aw (Ae b a) (Ae a b)).take i).map (B9 Ab st (Ae b a) (Ae a b))).map A2).length + 1) * 24 ≤ 140737488355328)) (by (simp; omega)) <| c0) ?_
       refine Ap ?_
       refine Av 0 [] [3, 9, 10, 11, 12, 46, 47, 48] [] hk0 v0 (cc 0 (p := (-9223372036854775808 ≤ (i : Int) + 1 ∧ (i : Int) + 1 ≤ 9223372036854775807)) (by omega) <| c0) ?_
       refine ⟨by kernel_rfl, _, ?_, i + 1, ?_, (Eq.trans (b := (⟨[(3, (.fp (.agg [(.fp (Bo st))]))), (9, (Af (Ae b a))), (10, (Af (Ae a b))), (11, (.fp (.agg [(.fp (A3 st))]))), (12, (.own 2)), (46, (Af (Aw (Ae b a) (Ae a b)))), (47, (.int .i64 (((Aw (Ae b a) (Ae a b)).length : Int)))), (48, (.int .i64 ((i : Int) + 1)))], [(2, (.grow (((((Aw (Ae b a) (Ae a b)).take i).map (B9 Ab st (Ae b a) (Ae a b))).map A2) ++ ([(.agg [(.int .i64 6), (.int .i64 (nth (Aw (Ae b a) (Ae a b)) i)), (.int .i64 ((B8 (Ct st (nth (Aw (Ae b a) (Ae a b)) i)) (Ae b a))))])] : List AV)) 66 3))], 3⟩ : St)) (by kernel_rfl) (by rw [Mh (x := (6, (nth (Aw (Ae b a) (Ae a b)) i), (B8 (Ct st (nth (Aw (Ae b a) (Ae a b)) i)) (Ae b a)))) (f := (B9 Ab st (Ae b a) (Ae a b))) (by omega) (by unfold B9 goS; rw [if_neg c4, if_pos (by omega)])] <;> kernel_rfl)), rfl⟩
       ·omega
       ·omega
   ·refine Br ?_
    refine Aa [] [6, 7] ?_
    refine Ag ?_
    refine RK wR [(.row 3 ((((Aw (Ae b a) (Ae a b)).take i).map (B9 Ab st (Ae b a) (Ae a b))).map A2).length (fun ix => ((((Aw (Ae b a) (Ae a b)).take i).map (B9 Ab st (Ae b a) (Ae a b))).map A2).getD ix Bm)), (.int .i64 0)] ?_
    rw [show i = (Aw (Ae b a) (Ae a b)).length from by omega, List.take_length]
    simp only [Ak]
    rw [show Aj Ab st a b = ((Aw (Ae b a) (Ae a b)).map (B9 Ab st (Ae b a) (Ae a b)), 0) from by rw [Kx hra hrb]; rfl]
    exact (Imp.tups (ImpL.cons (Imp.list (f := A2) (List.length_map _)) (ImpL.cons Imp.refl ImpL.nil))).same
theorem Q3m (a : List Int) (l : List Bk) (ha : a.length ≤ 2097152) (hl : l.length ≤ 2097152) :
  FnV Tryz.prog 29 [(Af a), (Ac 3 A2 l)] (Af (Ar a l)) := by
 refine A4 [.tmp 4] Tryz.func29 rfl Tryz.ntmps29 rfl rfl (fun B F hF => ?_)
 refine Aa [] [0, 1] ?_
 refine Ah [] [1, 5] [] (hk 1 Po (Pd a (by omega)) <| hk0) v0 c0 ?_
 refine Ad ?_
 refine Aa [] [5, 10, 11, 12] ?_
 refine A1 ?_
 refine Bv (fun g y => ∃ (i : Nat), i ≤ l.length ∧ y = ⟨[(5, (Af (Ar a (l.take i)))), (10, (Ac 3 A2 l)), (11, (.int .i64 ((l.length : Int)))), (12, (.int .i64 ((i : Int))))], [], 0⟩ ∧ g = l.length - i) [5, 10, 11, 12] 0 _ (by omega) ⟨0, (by omega), (by kernel_rfl), rfl⟩ ?_
 rintro g1 y1 ⟨i, f1_1, rfl, rfl⟩
 have hal := T0 a (l.take i)
 have htl := List.length_take_le i l
 refine Aa [] [5, 10, 11, 12, 13] ?_
 refine Ad ?_
 refine A6 (p := (i : Int) < (l.length : Int)) (by kernel_rfl) (fun c1 => ?_) (fun c1 => ?_)
 ·refine Ai ?_
  refine Ad ?_
  refine A1 ?_
  refine Ah [] [5, 7, 10, 11, 12] [] hk0 v0 (cc 0 (p := (0 ≤ (i : Int) ∧ i < l.length)) (by omega) <| c0) ?_
  refine Ah [] [5, 7, 10, 11, 12, 17] [(0, 7)] hk0 v0 c0 ?_
  refine A1 ?_
  refine Dt (fun y => ∃ (v : Bool), v = Dk (nth l i).1 ∧ y = ⟨[(5, (Af (Ar a (l.take i)))), (7, (.fp (.agg [(.int .i64 ((nth l i).1)), (.int .i64 ((nth l i).2.1)), (.int .i64 ((nth l i).2.2))]))), (10, (Ac 3 A2 l)), (11, (.int .i64 ((l.length : Int)))), (12, (.int .i64 ((i : Int)))), (17, (.int .i64 ((nth l i).1))), (18, (.bool v))], [], 1⟩) [5, 7, 10, 11, 12, 17, 18] 1 (by omega) ?_ ?_
  ·refine Aa [] [5, 7, 10, 11, 12, 17, 18] ?_
   refine A6 (p := ((nth l i).1) = 1) (by kernel_rfl) (fun c2 => ?_) (fun c2 => ?_)
   ·refine Ai ?_
    refine ⟨by kernel_rfl, (decide (((nth l i).1) = 1)), ?_, (by kernel_rfl)⟩
    unfold Dk
    simp_all
   ·refine Aa [] [5, 7, 10, 11, 12, 17, 18] ?_
    refine A6 (p := ((nth l i).1) = 3) (by kernel_rfl) (fun c3 => ?_) (fun c3 => ?_)
    ·refine Ai ?_
     refine ⟨by kernel_rfl, (decide (((nth l i).1) = 3)), ?_, (by kernel_rfl)⟩
     unfold Dk
     simp_all
    ·refine Aa [] [5, 7, 10, 11, 12, 17, 18] ?_
     refine A6 (p := ((nth l i).1) = 4) (by kernel_rfl) (fun c4 => ?_) (fun c4 => ?_)
     ·refine Ai ?_
      refine ⟨by kernel_rfl, (decide (((nth l i).1) = 4)), ?_, (by kernel_rfl)⟩
      unfold Dk
      simp_all
     ·refine Ap ?_
      refine Fv [] [5, 7, 10, 11, 12, 17, 18] ?_
      refine ⟨by kernel_rfl, (decide (((nth l i).1) = 5)), ?_, (by kernel_rfl)⟩
      unfold Dk
      simp_all
  ·rintro y1 ⟨v, jv, rfl⟩
   refine Bd (q := v) (by kernel_rfl) (fun c5 => ?_) (fun c5 => ?_)
   ·try simp only [Ao] at c5
    refine Ap ?_
    refine Av 0 [] [5, 10, 11, 12] [(4, 26)] (hk 4 S3 (Sg (Ar a (l.take i)) [(nth l i).2.1] (by omega) (by first | omega | simp)) <| hk0) (vk 4 26 (b := (Af [(nth l i).2.1])) (Imp.list (f := AV.int .i64) rfl) <| v0) c0 ?_
    refine Ap ?_
    refine Av 0 [] [5, 10, 11, 12] [] hk0 v0 (cc 0 (p := (-9223372036854775808 ≤ (i : Int) + 1 ∧ (i : Int) + 1 ≤ 9223372036854775807)) (by omega) <| c0) ?_
    refine ⟨by kernel_rfl, _, ?_, i + 1, ?_, (Eq.trans (b := (⟨[(5, (Af (Aw (Ar a (l.take i)) [(nth l i).2.1]))), (10, (Ac 3 A2 l)), (11, (.int .i64 ((l.length : Int)))), (12, (.int .i64 ((i : Int) + 1)))], [], 0⟩ : St)) (by kernel_rfl) (by rw [Tz (by omega), D4, if_pos (by rw [← jv]; exact c5)] <;> kernel_rfl)), rfl⟩
    ·omega
    ·omega
   ·try simp only [Ao] at c5
    refine Dt (fun y => ∃ (u : Bool), u = Gq (nth l i).1 ∧ y = ⟨[(5, (Af (Ar a (l.take i)))), (7, (.fp (.agg [(.int .i64 ((nth l i).1)), (.int .i64 ((nth l i).2.1)), (.int .i64 ((nth l i).2.2))]))), (10, (Ac 3 A2 l)), (11, (.int .i64 ((l.length : Int)))), (12, (.int .i64 ((i : Int)))), (28, (.bool u))], [], 1⟩) [5, 7, 10, 11, 12, 28] 1 (by omega) ?_ ?_
    ·refine Aa [] [5, 7, 10, 11, 12, 17, 28] ?_
     refine A6 (p := ((nth l i).1) = 2) (by kernel_rfl) (fun c6 => ?_) (fun c6 => ?_)
     ·refine Ai ?_
      refine ⟨by kernel_rfl, (decide (((nth l i).1) = 2)), ?_, (by kernel_rfl)⟩
      unfold Gq
      simp_all
     ·refine Aa [] [5, 7, 10, 11, 12, 17, 28] ?_
      refine A6 (p := ((nth l i).1) = 6) (by kernel_rfl) (fun c7 => ?_) (fun c7 => ?_)
      ·refine Ai ?_
       refine ⟨by kernel_rfl, (decide (((nth l i).1) = 6)), ?_, (by kernel_rfl)⟩
       unfold Gq
       simp_all
      ·refine Ap ?_
       refine Fv [] [5, 7, 10, 11, 12, 28] ?_
       refine ⟨by kernel_rfl, (decide (((nth l i).1) = 7)), ?_, (by kernel_rfl)⟩
       unfold Gq
       simp_all
    ·rintro y2 ⟨u, ju, rfl⟩
     refine Bd (q := u) (by kernel_rfl) (fun c8 => ?_) (fun c8 => ?_)
     ·try simp only [Ao] at c8
      refine Ap ?_
      refine Av 0 [] [5, 10, 11, 12] [(4, 35)] (hk 4 Ng (M7 (Ar a (l.take i)) [(nth l i).2.1] (by omega) (by first | omega | simp)) <| hk0) (vk 4 35 (b := (Af [(nth l i).2.1])) (Imp.list (f := AV.int .i64) rfl) <| v0) c0 ?_
      refine Ap ?_
      refine Av 0 [] [5, 10, 11, 12] [] hk0 v0 (cc 0 (p := (-9223372036854775808 ≤ (i : Int) + 1 ∧ (i : Int) + 1 ≤ 9223372036854775807)) (by omega) <| c0) ?_
      refine ⟨by kernel_rfl, _, ?_, i + 1, ?_, (Eq.trans (b := (⟨[(5, (Af (Ae (Ar a (l.take i)) [(nth l i).2.1]))), (10, (Ac 3 A2 l)), (11, (.int .i64 ((l.length : Int)))), (12, (.int .i64 ((i : Int) + 1)))], [], 0⟩ : St)) (by kernel_rfl) (by rw [Tz (by omega), D4, if_neg (by rw [← jv, c5]; simp), if_pos (by rw [← ju]; exact c8)] <;> kernel_rfl)), rfl⟩
      ·omega
      ·omega
     ·try simp only [Ao] at c8
      refine Ai ?_
      refine Ap ?_
      refine Av 0 [] [5, 10, 11, 12] [] hk0 v0 (cc 0 (p := (-9223372036854775808 ≤ (i : Int) + 1 ∧ (i : Int) + 1 ≤ 9223372036854775807)) (by omega) <| c0) ?_
      refine ⟨by kernel_rfl, _, ?_, i + 1, ?_, (Eq.trans (b := (⟨[(5, (Af (Ar a (l.take i)))), (10, (Ac 3 A2 l)), (11, (.int .i64 ((l.length : Int)))), (12, (.int .i64 ((i : Int) + 1)))], [], 0⟩ : St)) (by kernel_rfl) (by rw [Tz (by omega), D4, if_neg (by rw [← jv, c5]; simp), if_neg (by rw [← ju, c8]; simp)] <;> kernel_rfl)), rfl⟩
      ·omega
      ·omega
 ·refine Br ?_
  refine Aa [] [4] ?_
  refine Ag ?_
  refine RK wR [(Af (Ar a (l.take i)))] ?_
  exact Same.of_eq (by simp only [Ak]; rw [show i = l.length from by omega, List.take_length])
end Sv
end Go.Proofs.YtlmloohlmlahfaaGreatDoor
end
section
namespace Go.Proofs.YtlmloohlmlahfaaGreatDoor
open Go Go.RowKit
namespace Sv
attribute [local irreducible] SW SO Bn
set_option maxHeartbeats 400000
set_option maxRecDepth 100000
theorem Q98 : Au Tryz.prog 25 := Ay Tryz.func25 (by kernel_rfl) rfl
theorem Va {x y : Bk} (h1 : x.1 = y.1) (h2 : x.2.1 = y.2.1) (h3 : x.2.2 = y.2.2) : x = y := Prod.ext h1 (Prod.ext h2 h3)
theorem Xm {a : List Bk} {i : Nat} (h : i < a.length) : nth a i = a[i] := by simp [nth, h]
theorem Q4w {a b : List Bk} (hl : a.length = b.length) (h : ∀ j, j < a.length → nth a j = nth b j) : decide (a = b) = true := decide_eq_true (List.ext_getElem hl fun j h1 h2 => by
 have := h j h1
 rwa [Xm h1, Xm h2] at this)
theorem Q4x {a b : List Bk} {i : Nat} (h : ¬ nth a i = nth b i) : decide (a = b) = false := decide_eq_false fun e => h (by rw [e])
theorem Q4y {a b : List Bk} (h : ¬ a.length = b.length) : decide (a = b) = false := decide_eq_false fun e => h (by rw [e])
theorem Q5v (a b : List Bk) (ha : a.length ≤ 4611686018427) :
  FnV Tryz.prog 25 [(Ac 3 A2 a), (Ac 3 A2 b)] (.bool (decide (a = b))) := by
 refine A4 [.tmp 4] Tryz.func25 rfl Tryz.ntmps25 rfl rfl (fun B F hF => ?_)
 refine Aa [] [0, 1] ?_
 refine Ad ?_
 refine Aa [] [0, 1, 10] ?_
 refine Da (p := (a.length : Int) = (b.length : Int)) (by kernel_rfl) (fun c1 => ?_) (fun c1 => ?_)
 ·refine Aa [] [4] ?_
  refine Ag ?_
  refine RK wR [(.bool false)] ?_
  exact Same.of_eq (by rw [Q4y (by omega)]; rfl)
 ·refine Ai ?_
  refine Ad ?_
  refine Aa [] [0, 1, 5] ?_
  refine A1 ?_
  refine Bv (fun g y => ∃ (i : Nat), i ≤ a.length ∧ (∀ j, j < i → nth a j = nth b j) ∧ y = ⟨[(0, (Ac 3 A2 a)), (1, (Ac 3 A2 b)), (5, (.int .i64 ((i : Int))))], [], 0⟩ ∧ g = a.length - i) [0, 1, 5] 0 _ (by omega) ⟨0, (by omega), (by exact fun j hj => by omega), (by kernel_rfl), rfl⟩ ?_
  rintro g1 y1 ⟨i, f1_1, f1_2, rfl, rfl⟩
  refine Ad ?_
  refine Aa [] [0, 1, 5, 14] ?_
  refine A6 (p := (i : Int) < (a.length : Int)) (by kernel_rfl) (fun c2 => ?_) (fun c2 => ?_)
  ·refine Ai ?_
   refine Ad ?_
   refine A1 ?_
   refine Ad ?_
   refine It (by kernel_rfl) (fun F1 hF1 => ?_)
   refine C0 (fuel := 1) [] [0, 1, 2, 3, 4, 5, 6, 7] [0, 1, 5, 20, 24] (hold (p := (0 ≤ (i : Int) ∧ i < a.length) ∧ (0 ≤ (i : Int) ∧ i < b.length)) (by omega)) ?_
   refine Fx (fuel := 0) 8 (by kernel_rfl) ?_
   refine Db (fuel := 0) 8 rfl ?_
   refine L7 (s' := [(0, (Ac 3 A2 a)), (1, (Ac 3 A2 b)), (5, (.int .i64 ((i : Int)))), (20, (.agg [(.int .i64 ((nth a i).1)), (.int .i64 ((nth a i).2.1)), (.int .i64 ((nth a i).2.2))])), (24, (.agg [(.int .i64 ((nth b i).1)), (.int .i64 ((nth b i).2.1)), (.int .i64 ((nth b i).2.2))])), (25, (.bool (!(decide ((nth a i).1 = ((nth b i).1)) && (decide ((nth a i).2.1 = ((nth b i).2.1)) && (decide ((nth a i).2.2 = ((nth b i).2.2)) && true))))))]) (.bool (!(decide ((nth a i).1 = ((nth b i).1)) && (decide ((nth a i).2.1 = ((nth b i).2.1)) && (decide ((nth a i).2.2 = ((nth b i).2.2)) && true))))) (by kernel_rfl) (Q4i (l := [(.int .i64 ((nth a i).1)), (.int .i64 ((nth a i).2.1)), (.int .i64 ((nth a i).2.2))]) (m := [(.int .i64 ((nth b i).1)), (.int .i64 ((nth b i).2.1)), (.int .i64 ((nth b i).2.2))]) (r := decide ((nth a i).1 = ((nth b i).1)) && (decide ((nth a i).2.1 = ((nth b i).2.1)) && (decide ((nth a i).2.2 = ((nth b i).2.2)) && true))) (.inl (by kernel_rfl)) (.inl (by kernel_rfl)) (by kernel_rfl) (by kernel_rfl) (by kernel_rfl) (by kernel_rfl)) (by kernel_rfl) ?_
   refine Bx ⟨rfl, ?_⟩
   refine Az [0, 1, 5, 25] ?_
   refine Gi (by kernel_rfl) ?_
   refine Bd (q := !(decide ((nth a i).1 = ((nth b i).1)) && (decide ((nth a i).2.1 = ((nth b i).2.1)) && (decide ((nth a i).2.2 = ((nth b i).2.2)) && true)))) (by kernel_rfl) (fun c3 => ?_) (fun c3 => ?_)
   ·try simp only [Ao] at c3
    refine Aa [] [4] ?_
    refine Ag ?_
    refine RK wR [(.bool false)] ?_
    exact Same.of_eq (by rw [Q4x (i := i) (by intro e; rw [e] at c3; simp at c3)]; rfl)
   ·try simp only [Ao] at c3
    refine Ai ?_
    refine Ap ?_
    refine Av 0 [] [0, 1, 5] [] hk0 v0 (cc 1 (p := (-9223372036854775808 ≤ (i : Int) + 1 ∧ (i : Int) + 1 ≤ 9223372036854775807)) (by omega) <| c0) ?_
    refine ⟨by kernel_rfl, _, ?_, i + 1, ?_, ?_, (by kernel_rfl), rfl⟩
    ·omega
    ·omega
    ·intro j hj
     by_cases h : j = i
     ·subst h; exact Va (by simp_all) (by simp_all) (by simp_all)
     ·exact f1_2 j (by omega)
  ·refine Br ?_
   refine Aa [] [4] ?_
   refine Ag ?_
   refine RK wR [(.bool true)] ?_
   exact Same.of_eq (by rw [Q4w (by omega) (fun j hj => f1_2 j (by omega))]; rfl)
end Sv
end Go.Proofs.YtlmloohlmlahfaaGreatDoor
end
section
namespace Go.Proofs.YtlmloohlmlahfaaGreatDoor
open Go Go.RowKit
set_option linter.unusedSimpArgs false
set_option linter.unusedVariables false
namespace Sv
section
variable {P : Program} {B : Bas} {w : World} {F F0 : Cx} {n : Nat} {φ : Phi} {σ : Nat → Value} {K : Exit → St → Prop} {x y : St} {ops : Array Oper}
theorem Uk {z : Value} {sz k : Nat} (h : z.cells.size = sz) : (Builtin.zeroCells z.cells k).toList = (List.replicate k z).flatMap fun u => u.cells.toList := by
  have hl : ((List.replicate k z).flatMap fun u => u.cells.toList).length = k * sz := by
    rw [Id (sz := sz) (fun u hu => by rw [List.eq_of_mem_replicate hu]; exact h), List.length_replicate]
  refine List.ext_getElem (by rw [Array.length_toList, size_zeroCells, h, hl]) fun q h1 h2 => ?_
  rw [hl] at h2
  have hs : 0 < sz := by rcases Nat.eq_zero_or_pos sz with e | e; · subst e; omega
                         · exact e
  have hq : q % sz < sz := Nat.mod_lt _ hs
  have hd : q / sz < k := Nat.div_lt_of_lt_mul (by rw [Nat.mul_comm]; exact h2)
  have hj : z.cells.toList[q % sz]? = some (z.cells[q % sz]'(by omega)) := by simp [h, hq]
  have := Zk (vs := List.replicate k z) (sz := sz) (i := q / sz) (v := z) (fun u hu => by rw [List.eq_of_mem_replicate hu]; exact h) (by simp [hd]) hj
  rw [show q / sz * sz + q % sz = q by rw [Nat.mul_comm]; exact Nat.div_add_mod q sz, List.getElem?_eq_some_iff] at this
  obtain ⟨_, this⟩ := this
  rw [this]
  simp [Builtin.zeroCells, h, hq]
theorem X4d {rest : List Oper} {t ta : TypeId} {X I : Operand} {d : Nat} {dst : Option Tmp} {ty ty' : TypeId} {ps ps' : String} {af af' : Array Edge} {g g' : Option (Nat × Bool)} {b e sz i : Nat} {k : IntKind} {es : List AV} {z : AV} {s1 s2 : Fr}
    (hg : C8 ops x.s g = true) (hX : evA x.s X = some (.own b)) (hI : evA x.s I = some (.int k (i : Int))) (hb : Bg b x.h = some (.grow es e sz)) (he : Ew P t = some e) (he2 : Ew P ta = some e) (hs : tsz P e = some sz) (hi : i ≤ es.length)
    (hz : H3 P e = some z) (hz1 : (Nat.beq (cellsOf z).length sz && !Ea z && ones (cellsOf z)) = true)
    (hp : B3 n (some d) (.cond false (.str [])) x.s = some s1) (hg2 : C8 ops s1 g' = true) (hp2 : B3 n dst (.tup []) s1 = some s2)
    (next : SO P n ops rest B F K ⟨s2, Ca b (.grow (es.take i ++ List.replicate (es.length - i) z) e sz) x.h, x.nx⟩) :
    SO P n ops (⟨some d, .slice t X (some I) none none, ty, ps, af, g⟩ :: ⟨dst, .call { callee := .builtin .clear, args := #[.tmp d], argTypes := #[ta] }, ty', ps', af', g'⟩ :: rest) B F K x := by
  intro φ σ w hx
  have v1 := hx.fr.ev _ _ hX
  have v2 := hx.fr.ev _ _ hI
  simp only [VR] at v1 v2
  obtain ⟨v, vs, a1, a2, a3, a4⟩ := hx.rel.obj b _ hb
  rw [v1.1] at a1; have a1 := Option.some.inj a1
  obtain ⟨zv, z1, z2⟩ := Jn (φ := φ.fz) hz
  simp only [Bool.and_eq_true, Bool.not_eq_true'] at hz1
  obtain ⟨⟨c1, c2⟩, c3⟩ := hz1
  have zc := z2.cells c2
  have zl : zv.cells.size = sz := by have := zc.length; have := Nat.eq_of_beq_eq_true c1; simp only [Array.length_toList] at *; omega
  have zo := zc.ones c3
  have hlv : vs.length = es.length := a3.length
  have hsz : ∀ u ∈ vs, u.cells.size = sz := fun u hu => (a4 u hu).1
  have hput : ∀ {q : Value}, VR φ (.cond false (.str [])) q := fun {q} => by unfold VR; exact ⟨fun q => (by cases q), fun q => (by cases q)⟩
  have hr : VRl φ.fz (es.take i ++ List.replicate (es.length - i) z) (vs.take i ++ List.replicate (es.length - i) zv) := by
    refine (a3.take i).append ?_
    generalize es.length - i = m
    induction m with
    | zero => exact .nil
    | succ m ih => rw [List.replicate_succ, List.replicate_succ]; exact .cons z2 ih
  have h4 : ∀ u ∈ vs.take i ++ List.replicate (es.length - i) zv, u.cells.size = sz ∧ ∀ c ∈ u.cells.toList, c.oneCell' = true := by
    intro u hu
    rcases List.mem_append.1 hu with hu | hu
    · exact a4 u (List.mem_of_mem_take hu)
    · rw [List.eq_of_mem_replicate hu]; exact ⟨zl, zo⟩
  have hnl : (es.take i ++ List.replicate (es.length - i) z).length = es.length := by rw [List.length_append, List.length_take, List.length_replicate]; omega
  have hev : ∀ q, ev n (Ce σ (some d) q) (.tmp d) = q := fun q => by
    unfold B3 at hp
    obtain ⟨h1, _⟩ := Dd hp
    have h1 : d < n := by simpa [Nat.blt_eq] using h1
    simp only [Ce, ev]; rw [Vh h1, if_pos rfl]
  rcases a2.2 with ⟨hv, hn⟩ | ⟨gb, cap, cur, hv, g1, g2, g3, g4, g5, g6⟩
  · have hi0 : i = 0 := by omega
    subst hi0
    rw [← a1] at hv
    refine Cy (w' := w) (C4 hx.fr hg) (v := .slice none 0 0) ?_ ?_
    · have hb := fun w => Gk (P := P) (isS := true) (len := 0) (cap := 0) (i := 0) (j := 0) (m := 0) (lo := some (ev n σ I)) (hi := none) (mx := none) (.inr ⟨k, by rw [v2]⟩) (.inl ⟨rfl, rfl⟩) (.inl ⟨rfl, rfl⟩) (Nat.le_refl _) (Nat.le_refl _) (Nat.le_refl _) w
      simp only [execOp, Instr.sliceAt, Instr.slice, Sem.run_bind, Sem.run_pure, run_underlying (Dq he), Result.andThen_ok, hv, hb, Cs hs, Option.map_some, Option.map_none] <;> (try split) <;> rfl
    · have hf1 := hx.fr.put hp (hput (q := .slice none 0 0))
      refine Cy (v := .tuple #[]) (w' := w) (C4 (x := ⟨s1, x.h, x.nx⟩) hf1 hg2) ?_ (next φ _ w ⟨hf1.put hp2 (by simp only [VR]; exact ⟨[], .nil, rfl⟩), ?_, hx.dom, hx.old, hx.new, hx.base⟩)
      · simp [execOp, resolve, invoke, builtin, Builtin.clear_, hev, run_underlying (Dq he2), go_sem]
      · refine hx.rel.setO hb hx.rel.below (Nat.le_refl _) (fun _ _ _ => rfl) ?_ (fun _ h => h)
        have he0 : es = [] := List.eq_nil_of_length_eq_zero hn
        subst he0
        exact hx.rel.obj b _ hb
  · have hv0 := hv
    rw [← a1] at hv
    have hbd := fun w => Gk (P := P) (isS := true) (len := es.length) (cap := cap) (i := i) (j := es.length) (m := cap) (lo := some (ev n σ I)) (hi := none) (mx := none) (.inr ⟨k, by rw [v2]⟩) (.inl ⟨rfl, rfl⟩) (.inl ⟨rfl, rfl⟩) hi g3 (Nat.le_refl _) w
    refine Cy (w' := w) (C4 hx.fr hg) (v := .slice (some (if cap = i then ⟨gb, 0, none⟩ else (⟨gb, 0, none⟩ : Addr).add (i * sz))) (es.length - i) (cap - i)) ?_ ?_
    · simp only [execOp, Instr.sliceAt, Instr.slice, Sem.run_bind, Sem.run_pure, run_underlying (Dq he), Result.andThen_ok, hv, hbd, Cs hs, Option.map_some, Option.map_none] <;> (try split) <;> rfl
    · have hf1 := hx.fr.put hp (hput (q := .slice (some (if cap = i then ⟨gb, 0, none⟩ else (⟨gb, 0, none⟩ : Addr).add (i * sz))) (es.length - i) (cap - i)))
      have hgi : img φ b (.grow es e sz) gb := by simp only [img, v1.1, a1, Option.bind_some]; rw [hv0]; rfl
      by_cases hz0 : es.length - i = 0
      · refine Cy (v := .tuple #[]) (w' := w) (C4 (x := ⟨s1, x.h, x.nx⟩) hf1 hg2) ?_ (next φ _ w ⟨hf1.put hp2 (by simp only [VR]; exact ⟨[], .nil, rfl⟩), ?_, hx.dom, hx.old, hx.new, hx.base⟩)
        · simp [execOp, resolve, invoke, builtin, Builtin.clear_, hev, hz0, run_underlying (Dq he2), go_sem]
        · refine hx.rel.setO hb hx.rel.below (Nat.le_refl _) (fun _ _ _ => rfl) ?_ (fun _ h => h)
          rw [hz0, List.replicate_zero, List.append_nil, List.take_of_length_le (by omega)]
          exact hx.rel.obj b _ hb
      · have hci : ¬ cap = i := by omega
        have hfl := Id hsz
        have hzl : (Builtin.zeroCells zv.cells (es.length - i)).toList.length = (es.length - i) * sz := by rw [Array.length_toList, size_zeroCells, zl]
        have hmul : i * sz + (es.length - i) * sz = es.length * sz := by rw [← Nat.add_mul]; congr 1; omega
        have hcap : es.length * sz ≤ cap * sz := Nat.mul_le_mul_right sz g3
        have hrun := run_storeCells_at P gb (i * sz) e (Builtin.zeroCells zv.cells (es.length - i)).toList 0 cur w g2 (by omega) (fun c hc => by
          rw [Uk zl] at hc
          obtain ⟨u, hu, hc⟩ := List.mem_flatMap.1 hc
          rw [List.eq_of_mem_replicate hu] at hc; exact zo c hc)
        rw [hzl, Nat.add_zero, hmul] at hrun
        obtain ⟨C, hC⟩ : ∃ C, cur.toList.take (i * sz) ++ (Builtin.zeroCells zv.cells (es.length - i)).toList ++ cur.toList.drop (es.length * sz) = C := ⟨_, rfl⟩
        rw [hC] at hrun
        have hA : ((vs.take i).flatMap fun u => u.cells.toList).length = i * sz := by
          rw [Id (fun u hu => hsz u (List.mem_of_mem_take hu)), List.length_take, Nat.min_eq_left (by omega)]
        have hth : cur.toList.take (i * sz) = (vs.take i).flatMap fun u => u.cells.toList := by
          have : cur.toList.take (i * sz) = (cur.toList.take (es.length * sz)).take (i * sz) := by rw [List.take_take, Nat.min_eq_left (by omega)]
          rw [this, g6]
          conv => lhs; rw [← List.take_append_drop i vs]
          rw [List.flatMap_append]
          exact List.take_left' hA
        have hflat : ((vs.take i ++ List.replicate (es.length - i) zv).flatMap fun u => u.cells.toList) = cur.toList.take (i * sz) ++ (Builtin.zeroCells zv.cells (es.length - i)).toList := by
          rw [List.flatMap_append, hth, Uk zl]
        have hfll : ((vs.take i ++ List.replicate (es.length - i) zv).flatMap fun u => u.cells.toList).length = es.length * sz := by
          rw [Id (fun u hu => (h4 u hu).1), List.length_append, List.length_take, List.length_replicate]; congr 1; omega
        have hcl : C.length = cap * sz := by
          have : cur.toList.length = cap * sz := by rw [Array.length_toList]; exact g5
          rw [← hC, ← hflat, List.length_append, hfll, List.length_drop]; omega
        have hat : At B φ (w.setRow gb C.toArray) b (.grow (es.take i ++ List.replicate (es.length - i) z) e sz) := by
          refine ⟨_, vs.take i ++ List.replicate (es.length - i) zv, v1.1, ?_, hr, h4⟩
          rw [hnl, a1, hv0]
          refine ⟨hfll, .inr ⟨gb, cap, C.toArray, rfl, Nat.zero_le _, setRow_heap w gb cur _ e _ g2, g3, g4, by simpa using hcl, ?_⟩⟩
          rw [List.toList_toArray, ← hC, ← hflat]
          exact List.take_left' hfll
        refine Cy (v := .tuple #[]) (w' := w.setRow gb C.toArray) (C4 (x := ⟨s1, x.h, x.nx⟩) hf1 hg2) ?_ (next φ _ _ ⟨hf1.put hp2 (by simp only [VR]; exact ⟨[], .nil, rfl⟩), ?_, hx.dom, hx.old, hx.new, hx.base⟩)
        · obtain ⟨m, hm⟩ : ∃ m, es.length - i = m + 1 := ⟨es.length - i - 1, by omega⟩
          rw [hm] at hrun
          unfold Value.cells at hrun
          simp [execOp, resolve, invoke, builtin, Builtin.clear_, hev, hci, hm, run_underlying (Dq he2), z1, D5, hrun, go_sem]
        · refine hx.rel.setO hb (hx.rel.below.to rfl rfl rfl ?_ fun q hq => setRow_other w gb q _ ?_) ?_ (fun q _ hq => setRow_other w gb q _ ?_) hat (fun k hk => hk)
          · simp
          · rintro rfl; exact (hx.rel.gf b _ q hb hgi).1 hq
          · simp
          · rintro rfl; exact hq hgi
end
end Sv
end Go.Proofs.YtlmloohlmlahfaaGreatDoor
end
section
namespace Go.Proofs.YtlmloohlmlahfaaGreatDoor
open Go Go.RowKit
namespace Sv
def ofB (b : Int) (s : Bk) : Bool := decide (s.2.1 = b)
def C6 (b : Int) (s : Bk) : Bool := (decide (s.1 = 6) || decide (s.1 = 7)) && decide (s.2.2 = b)
def De (s : Bk) : Bool := decide (s.1 = 2)
def Ex (q : List Bk) (b : Int) : List Bk := q.filter (ofB b) ++ q.filter (C6 b)
def Rp (q : List Bk) (bs : List Int) : List Bk := bs.flatMap (Ex q) ++ q.filter De
def Nx (q : List Bk) (c : List Int) : Prop := (q.map fun x => x.2.1).Nodup ∧ (∀ s ∈ q, Dk s.1 = true → s.2.1 ∈ c) ∧ (∀ s ∈ q, s.2.1 ∈ c → Dk s.1 = true) ∧ (∀ s ∈ q, s.1 = 6 ∨ s.1 = 7 → s.2.2 ∈ c) ∧ ∀ s ∈ q, Dk s.1 = true ∨ Gq s.1 = true
theorem Nj {s : Bk} (h : Dk s.1 = true) : ¬ s.1 = 6 ∧ ¬ s.1 = 7 ∧ ¬ s.1 = 2 := by
  unfold Dk at h
  simp only [Bool.or_eq_true, decide_eq_true_eq] at h
  omega
theorem Q80 {s : Bk} (h : Gq s.1 = true) : s.1 = 2 ∨ s.1 = 6 ∨ s.1 = 7 := by
  unfold Gq at h
  simp only [Bool.or_eq_true, decide_eq_true_eq] at h
  exact h
theorem mem_done {q : List Bk} {b : Int} {s : Bk} : s ∈ Ex q b ↔ s ∈ q ∧ (ofB b s = true ∨ C6 b s = true) := by
  unfold Ex
  rw [List.mem_append, List.mem_filter, List.mem_filter]
  constructor
  · rintro (h | h)
    · exact ⟨h.1, .inl h.2⟩
    · exact ⟨h.1, .inr h.2⟩
  · rintro ⟨h, k | k⟩
    · exact .inl ⟨h, k⟩
    · exact .inr ⟨h, k⟩
theorem Qz {q : List Bk} {c : List Int} (h : Nx q c) : q.Nodup := List.Pairwise.of_map (fun x => x.2.1) (fun a b hab e => hab (by rw [e])) h.1
theorem X1q {q : List Bk} {c : List Int} (h : Nx q c) {b : Int} (hb : b ∈ c) : (Ex q b).Nodup := by
  have hn := Qz h
  unfold Ex
  rw [List.nodup_append]
  refine ⟨hn.filter _, hn.filter _, fun x hx y hy e => ?_⟩
  subst e
  obtain ⟨h1, h2⟩ := List.mem_filter.1 hx
  obtain ⟨_, h3⟩ := List.mem_filter.1 hy
  have h2 : x.2.1 = b := by unfold ofB at h2; simpa using h2
  have hc := Nj (h.2.2.1 x h1 (by rw [h2]; exact hb))
  unfold C6 at h3
  simp only [Bool.and_eq_true, Bool.or_eq_true, decide_eq_true_eq] at h3
  omega
theorem Zj {q : List Bk} {c : List Int} (h : Nx q c) : ∀ {bs : List Int}, bs.Nodup → (∀ b ∈ bs, b ∈ c) → (bs.flatMap (Ex q)).Nodup
  | [], _, _ => List.nodup_nil
  | b :: bs, hn, hc => by
    rw [List.nodup_cons] at hn
    rw [List.flatMap_cons, List.nodup_append]
    refine ⟨X1q h (hc b (by simp)), Zj h hn.2 fun x hx => hc x (by simp [hx]), fun x hx y hy e => ?_⟩
    subst e
    obtain ⟨b', hb', hy⟩ := List.mem_flatMap.1 hy
    have h1 := mem_done.1 hx
    have h2 := mem_done.1 hy
    have hbc := hc b (by simp)
    have hbc' := hc b' (by simp [hb'])
    have ne : ¬ b = b' := fun e => hn.1 (by rw [e]; exact hb')
    have k1 : x.2.1 = b → Dk x.1 = true := fun e => h.2.2.1 x h1.1 (by rw [e]; exact hbc)
    have k2 : x.2.1 = b' → Dk x.1 = true := fun e => h.2.2.1 x h1.1 (by rw [e]; exact hbc')
    unfold ofB C6 at h1 h2
    simp only [Bool.and_eq_true, Bool.or_eq_true, decide_eq_true_eq] at h1 h2
    rcases h1.2 with a1 | a1 <;> rcases h2.2 with a2 | a2
    · exact ne (a1.symm.trans a2)
    · have := Nj (k1 a1); omega
    · have := Nj (k2 a2); omega
    · exact ne (a1.2.symm.trans a2.2)
theorem Q6k {q : List Bk} {c bs : List Int} (h : Nx q c) (hb : bs.Perm c) (hc : c.Nodup) : (Rp q bs).Perm q := by
  have hn := Qz h
  have hbn : bs.Nodup := hb.nodup_iff.2 hc
  have hin : ∀ b ∈ bs, b ∈ c := fun b k => hb.mem_iff.1 k
  refine (List.perm_ext_iff_of_nodup ?_ hn).2 fun s => ?_
  · unfold Rp
    rw [List.nodup_append]
    refine ⟨Zj h hbn hin, hn.filter _, fun x hx y hy e => ?_⟩
    subst e
    obtain ⟨b, hb', hx⟩ := List.mem_flatMap.1 hx
    have h1 := mem_done.1 hx
    have h2 := (List.mem_filter.1 hy).2
    have k1 : x.2.1 = b → Dk x.1 = true := fun e => h.2.2.1 x h1.1 (by rw [e]; exact hin b hb')
    unfold ofB C6 at h1
    unfold De at h2
    simp only [Bool.and_eq_true, Bool.or_eq_true, decide_eq_true_eq] at h1 h2
    rcases h1.2 with a1 | a1
    · have := Nj (k1 a1); omega
    · omega
  · unfold Rp
    rw [List.mem_append, List.mem_flatMap, List.mem_filter]
    constructor
    · rintro (⟨b, _, hx⟩ | hx)
      · exact (mem_done.1 hx).1
      · exact hx.1
    · intro hs
      rcases h.2.2.2.2 s hs with k | k
      · refine .inl ⟨s.2.1, hb.mem_iff.2 (h.2.1 s hs k), mem_done.2 ⟨hs, .inl ?_⟩⟩
        unfold ofB; simp
      · rcases Q80 k with k | k
        · exact .inr ⟨hs, by unfold De; simp [k]⟩
        · refine .inl ⟨s.2.2, hb.mem_iff.2 (h.2.2.2.1 s hs k), mem_done.2 ⟨hs, .inr ?_⟩⟩
          unfold C6; simp [k]
theorem X11 {a b : List Bk} (hp : a.Perm b) (hn : b.Nodup) {x : Bk} (hx : x ∈ b) : a.count x = 1 := by
  rw [hp.count_eq]
  have h1 := List.count_pos_iff.2 hx
  have h2 := List.nodup_iff_count.1 hn x
  omega
theorem Zo {p : Int → Bool} {l : List Int} (h : 0 ≤ B8 p l) : B8 p l ∈ l := by
  unfold B8 at h ⊢
  have := Li p l
  split at h
  · rename_i q
    rw [if_pos q, Fk (by omega)]; exact List.getElem_mem _
  · omega
theorem U6 (m : Int → Int → List UInt8 → Int → List UInt8 → Bool × Int) (st : PoolT) (a b : List Int) : Nx (Ek (B9 m st) a b) (Ae b a) := by
  have hso := U9 m st
  have key : ∀ s ∈ Ek (B9 m st) a b, ∃ i, s = B9 m st (Ae b a) (Ae a b) i := fun s hs => by
    obtain ⟨i, _, rfl⟩ := List.mem_map.1 hs
    exact ⟨i, rfl⟩
  refine ⟨by rw [U5 hso]; exact K1 (N0 _ _), fun s hs h => ?_, fun s hs h => ?_, fun s hs h => ?_, fun s hs => ?_⟩ <;> obtain ⟨i, rfl⟩ := key s hs <;> have k := hso (Ae b a) (Ae a b) i
  · rw [k.1]
    by_cases c : i ∈ Ae b a
    · exact c
    · rw [(k.2.2 c).1] at h; cases h
  · rw [k.1] at h; exact (k.2.1 h).1
  · by_cases c : i ∈ Ae b a
    · have := Nj (k.2.1 c).1; omega
    · have e : B9 m st (Ae b a) (Ae a b) i = goS m st (Ae b a) i := by unfold B9; rw [if_neg c]
      rw [e] at h ⊢
      unfold goS at h ⊢
      split
      · rename_i q; exact Zo q
      · rename_i q
        split
        · rename_i q2; exact Zo q2
        · rename_i q2
          rw [if_neg q, if_neg q2] at h
          rcases h with h | h <;> simp at h
  · by_cases c : i ∈ Ae b a
    · exact .inl (k.2.1 c).1
    · exact .inr (k.2.2 c).2
end Sv
end Go.Proofs.YtlmloohlmlahfaaGreatDoor
end
section
namespace Go.Proofs.YtlmloohlmlahfaaGreatDoor
open Go Go.RowKit
namespace Sv
abbrev Dn := Int × Bool × DepT
abbrev Fe := Int → Int → List UInt8 → Int → List UInt8 → Bool × Int
def A7 (m : Fe) (st : PoolT) (th : List Int) (id : Int) (l : List DepT) : List DepT := l.filter fun d => !(C2 m st d (Aw th [id])).1
def Bu (st : PoolT) (id : Int) : List DepT := (nth st.all id.toNat).1.pre
def B2 (st : PoolT) (id : Int) : List DepT := (nth st.all id.toNat).1.requires
def Ev (m : Fe) (st : PoolT) (th : List Int) : List Int → Int → Bool → Int
  | [], b, _ => b
  | id :: r, b, h => if 0 < (A7 m st th id (Bu st id)).length then Ev m st th r b h else if (A7 m st th id (B2 st id)).length = 0 then id else Ev m st th r (if h = true then b else id) true
def Eu (m : Fe) (st : PoolT) (th : List Int) (c : List Int) : Int := Ev m st th c (nth c 0) false
def Ij (m : Fe) (st : PoolT) (th : List Int) (b p : Int) : List Dn := (A7 m st th b (Bu st b)).map (fun d => (p, true, d)) ++ (A7 m st th b (B2 st b)).map (fun d => (p, false, d))
def Fa (m : Fe) (st : PoolT) (q : List Bk) (a : List Int) : Nat → List Int → List Bk → List Dn → List Bk × List Dn
  | 0, _, o, k => (o, k)
  | n + 1, c, o, k => if c = [] then (o, k) else Fa m st q a n (Ae c [Eu m st (Ar a o) c]) (o ++ Ex q (Eu m st (Ar a o) c)) (k ++ Ij m st (Ar a o) (Eu m st (Ar a o) c) (o.length : Int))
def E9 (m : Fe) (st : PoolT) (a b : List Int) : List Bk × List Dn × Int :=
  if (Aj m st a b).2 ≠ 0 then ([], [], (Aj m st a b).2) else
    ((Fa m st (Aj m st a b).1 a (Ae b a).length (Ae b a) [] []).1 ++ (Aj m st a b).1.filter De, (Fa m st (Aj m st a b).1 a (Ae b a).length (Ae b a) [] []).2, 0)
theorem R2 {m : Fe} {st : PoolT} {th : List Int} : ∀ (l : List Int) (b : Int) (h : Bool), Ev m st th l b h ∈ l ∨ Ev m st th l b h = b
  | [], b, h => .inr rfl
  | id :: r, b, h => by
    unfold Ev
    split
    · exact (R2 r b h).imp (List.mem_cons_of_mem _) (fun q => q)
    · split
      · exact .inl (by simp)
      · rcases R2 r (if h = true then b else id) true with q | q
        · exact .inl (List.mem_cons_of_mem _ q)
        · rw [q]
          split
          · exact .inr rfl
          · exact .inl (by simp)
theorem R1 {m : Fe} {st : PoolT} {th c : List Int} (h : ¬ c = []) : Eu m st th c ∈ c := by
  unfold Eu
  rcases R2 (m := m) (st := st) (th := th) c (nth c 0) false with q | q
  · exact q
  · rw [q]
    cases c with
    | nil => exact absurd rfl h
    | cons x r => simp [nth]
theorem My {c : List Int} {b : Int} (h : b ∈ c) : (Ae c [b]).length < c.length := by
  have h1 : ∀ c : List Int, b ∈ c → (c.filter fun z => !decide (z ∈ [b])).length < c.length := by
    intro c
    induction c with
    | nil => intro h; cases h
    | cons x r ih =>
      intro h
      have h2 := List.length_filter_le (fun z => !decide (z ∈ [b])) r
      by_cases e : x = b
      · rw [List.filter_cons_of_neg (by simp [e])]; simp only [List.length_cons]; omega
      · have := ih (by simpa [Ne.symm e] using h)
        rw [List.filter_cons_of_pos (by simp [e])]; simp only [List.length_cons]; omega
  exact Nat.lt_of_le_of_lt (H5 _) (h1 c h)
theorem Ow {m : Fe} {st : PoolT} {q : List Bk} {a : List Int} {n : Nat} {c : List Int} {o : List Bk} {k : List Dn} (hc : ¬ c = []) (hn : c.length ≤ n) :
    Fa m st q a n c o k = Fa m st q a (n - 1) (Ae c [Eu m st (Ar a o) c]) (o ++ Ex q (Eu m st (Ar a o) c)) (k ++ Ij m st (Ar a o) (Eu m st (Ar a o) c) (o.length : Int)) := by
  have := List.length_pos_iff.2 hc
  obtain ⟨j, rfl⟩ : ∃ j, n = j + 1 := ⟨n - 1, by omega⟩
  rw [Fa, if_neg hc, Nat.add_sub_cancel]
theorem W5 {m : Fe} {st : PoolT} {q : List Bk} {a : List Int} {n : Nat} {o : List Bk} {k : List Dn} : Fa m st q a n [] o k = (o, k) := by cases n <;> rfl
theorem W6 {m : Fe} {st : PoolT} {q : List Bk} {a : List Int} : ∀ (n : Nat) (c : List Int) (o : List Bk) (k : List Dn), c.length ≤ n → Cr c → ∃ bs : List Int, bs.Perm c ∧ (Fa m st q a n c o k).1 = o ++ bs.flatMap (Ex q)
  | 0, c, o, k, h, _ => by
    obtain rfl : c = [] := List.length_eq_zero_iff.1 (by omega)
    exact ⟨[], List.Perm.refl _, by simp [Fa]⟩
  | n + 1, c, o, k, h, hr => by
    by_cases hc : c = []
    · subst hc; exact ⟨[], List.Perm.refl _, by simp [Fa]⟩
    · have hm := R1 (m := m) (st := st) (th := Ar a o) hc
      have hl := My hm
      rw [Ow hc h, Nat.add_sub_cancel]
      generalize Eu m st (Ar a o) c = b at hm hl ⊢
      obtain ⟨bs, h1, h2⟩ := W6 (m := m) (st := st) (q := q) (a := a) n (Ae c [b]) (o ++ Ex q b) (k ++ Ij m st (Ar a o) b (o.length : Int)) (by omega) (I4 _ _)
      refine ⟨b :: bs, (List.Perm.cons b h1).trans ((List.perm_ext_iff_of_nodup ?_ (K1 hr)).2 fun x => ?_), by rw [h2, List.flatMap_cons, List.append_assoc]⟩
      · rw [List.nodup_cons]; exact ⟨fun q => by have := (minusZ_mem.1 q).2; simp at this, K1 (I4 _ _)⟩
      · rw [List.mem_cons, minusZ_mem]
        constructor
        · rintro (rfl | q)
          · exact hm
          · exact q.1
        · intro q
          by_cases e : x = b
          · exact .inl e
          · exact .inr ⟨q, by simpa using e⟩
theorem Q6l {m : Fe} {st : PoolT} {a b : List Int} (ha : ∀ x ∈ a, 0 ≤ x ∧ x < st.all.length) (hb : ∀ x ∈ b, 0 ≤ x ∧ x < st.all.length) : (E9 m st a b).1.Perm (Ek (B9 m st) a b) ∧ (E9 m st a b).2.2 = 0 := by
  have e := Kx (m := m) ha hb
  unfold E9
  rw [e, if_neg (by simp)]
  refine ⟨?_, rfl⟩
  obtain ⟨bs, h1, h2⟩ := W6 (m := m) (st := st) (q := Ek (B9 m st) a b) (a := a) (Ae b a).length (Ae b a) [] [] (Nat.le_refl _) (I4 _ _)
  show ((Fa m st _ a _ _ [] []).1 ++ _).Perm _
  rw [h2, List.nil_append]
  exact Q6k (U6 m st a b) h1 (K1 (I4 _ _))
theorem Vs : ∀ (l : List Int) (u n : Int), Cr l → u ≤ n → (∀ x ∈ l, u ≤ x ∧ x < n) → (l.length : Int) ≤ n - u
  | [], u, n, _, h, _ => by simp; omega
  | x :: r, u, n, h, _, k => by
    have hx := k x (by simp)
    have := Vs r (x + 1) n h.2 (by omega) fun y hy => ⟨by have := h.1 y hy; omega, (k y (by simp [hy])).2⟩
    simp only [List.length_cons]; omega
theorem Vr {l : List Int} {n : Nat} (h : Cr l) (k : ∀ x ∈ l, 0 ≤ x ∧ x < n) : l.length ≤ n := by
  have := Vs l 0 n h (by omega) k
  omega
theorem X1r (q : List Bk) (b : Int) : (Ex q b).length ≤ 2 * q.length := by
  unfold Ex
  have h1 := List.length_filter_le (ofB b) q
  have h2 := List.length_filter_le (C6 b) q
  rw [List.length_append]; omega
theorem Yk (m : Fe) (st : PoolT) (th : List Int) (id : Int) (l : List DepT) : (A7 m st th id l).length ≤ l.length := List.length_filter_le _ _
theorem Zq {α : Type} (p : α → Bool) : ∀ l : List α, 0 ≤ Bz p l → (l.take ((Bz p l).toNat + 1)).filter (fun x => !p x) = l.take (Bz p l).toNat
  | [], h => by simp [Bz] at h
  | x :: r, h => by
    unfold Bz at h ⊢
    by_cases hx : p x = true
    · rw [if_pos hx]; simp [hx]
    · rw [if_neg hx] at h ⊢
      by_cases hr : Bz p r < 0
      · rw [if_pos hr] at h; omega
      · rw [if_neg hr, show (Bz p r + 1).toNat = (Bz p r).toNat + 1 by omega, List.take_succ_cons, List.filter_cons_of_pos (by simpa using hx), Zq p r (by omega), List.take_succ_cons]
theorem Zp {α : Type} (p : α → Bool) : ∀ l : List α, Bz p l = -1 → l.filter (fun x => !p x) = l
  | [], _ => rfl
  | x :: r, h => by
    have hl := Li p r
    unfold Bz at h
    by_cases hx : p x = true
    · rw [if_pos hx] at h; omega
    · rw [if_neg hx] at h
      rw [List.filter_cons_of_pos (by simpa using hx), Zp p r (by split at h <;> omega)]
theorem Pt {α : Type} [Inhabited α] {T l : List α} {j : Nat} (h : T.drop j = l.drop j) : nth T j = nth l j := by
  have := congrArg (fun x => x[0]?) h
  simp only [List.getElem?_drop, Nat.add_zero] at this
  unfold nth; rw [this]
theorem Q0z {α : Type} {T l : List α} {j : Nat} (h : T.drop j = l.drop j) : T.drop (j + 1) = l.drop (j + 1) := by
  have := congrArg (List.drop 1) h
  simpa [List.drop_drop] using this
theorem Q8h {α : Type} [Inhabited α] {p : α → Bool} {T l : List α} {i j : Nat} (hj : j < l.length) (hd : T.drop j = l.drop j) (ht : T.take i = (l.take j).filter p) (hp : p (nth T j) = false) : T.take i = (l.take (j + 1)).filter p := by
  rw [Pt hd] at hp
  rw [ht, List.take_add_one, List.getElem?_eq_getElem hj, List.filter_append]
  have : nth l j = l[j] := by simp [nth, hj]
  rw [this] at hp
  simp [hp]
theorem Q8g {α : Type} [Inhabited α] {p : α → Bool} {T l : List α} {i j : Nat} (hij : i < j) (hj : j < l.length) (hT : T.length = l.length) (hd : T.drop j = l.drop j) (ht : T.take i = (l.take j).filter p) (hp : p (nth T j) = true) :
    (T.set i (nth T j)).drop (j + 1) = l.drop (j + 1) ∧ (T.set i (nth T j)).take (i + 1) = (l.take (j + 1)).filter p := by
  constructor
  · rw [List.drop_set_of_lt (by omega), Q0z hd]
  · rw [List.take_add_one, List.getElem?_set_self (by omega), List.take_set_of_le (Nat.le_refl _), ht, Pt hd]
    rw [Pt hd] at hp
    have : nth l j = l[j] := by simp [nth, hj]
    rw [this] at hp ⊢
    rw [List.take_add_one, List.getElem?_eq_getElem hj, List.filter_append]
    simp [hp]
theorem X23 {a : List Int} {o : List Bk} {q : Bk} : Ar (Ar a o) [q] = Ar a (o ++ [q]) := by
  rw [Q16]
  show D4 (Cj (Ar a o)) q = _
  rw [Q5 (Q17 a o)]
end Sv
end Go.Proofs.YtlmloohlmlahfaaGreatDoor
end
section
namespace Go.Proofs.YtlmloohlmlahfaaGreatDoor
open Go Go.RowKit
namespace Sv
attribute [local irreducible] SW SO Bn
set_option maxHeartbeats 1000000
set_option maxRecDepth 100000
theorem Q6a {es : List AV} {l : List DepT} (h : es = l.map Al) : Imp (.row 5 es.length (fun ix => es.getD ix Bm)) (Ac 5 Al l) := by
  subst h; exact Imp.list (f := Al) (List.length_map _)
theorem Q8a {st : PoolT} {th : List Int} {id : Int} {l : List DepT} {es : List AV} (h : Bz (fun d => (C2 Ab st d (Aw th [id])).1) l = -1) (he : es = l.map Al) : Imp (.row 5 es.length (fun ix => es.getD ix Bm)) (Ac 5 Al (A7 Ab st th id l)) := by
  rw [show A7 Ab st th id l = l from Zp _ l h]
  subst he; exact Imp.list (f := Al) (List.length_map _)
theorem Q79 {st : PoolT} {th : List Int} {id : Int} {l : List DepT} (h : l = []) : Imp .nils (Ac 5 Al (A7 Ab st th id l)) := by
  subst h; exact Imp.nil (f := Al)
theorem Q78 {st : PoolT} {th : List Int} {id : Int} {l T : List DepT} {i : Nat} {z : List AV} (h : T.take i = A7 Ab st th id l) (hi : i ≤ T.length) : Imp (.row 5 (i - 0) (fun kx => ((T.map Al).take i ++ z).getD (0 + kx) Bm)) (Ac 5 Al (A7 Ab st th id l)) := by
  rw [← h]
  have e : (T.take i).length = i := by rw [List.length_take]; omega
  unfold Ac
  rw [e]
  refine Imp.row fun q hq => Imp.of_eq ?_
  rw [Nat.zero_add, ← List.map_take, List.getD_eq_getElem?_getD, List.getElem?_append_left (by rw [List.length_map, e]; omega), List.getElem?_map]
  have hq : q < (T.take i).length := by rw [e]; omega
  rw [List.getElem?_eq_getElem hq]
  simp [nth, List.getElem?_eq_getElem hq]
theorem S4 : Au Tryz.prog 67 := Ay Tryz.func67 (by kernel_rfl) rfl
theorem Pn : Au Tryz.prog 68 := Ay Tryz.func68 (by kernel_rfl) rfl
theorem S2 : Au Tryz.prog 72 := Ay Tryz.func72 (by kernel_rfl) rfl
theorem Zz : Au Tryz.prog 70 := Ay Tryz.func70 (by kernel_rfl) rfl
theorem Te (a : List Int) (o : List Bk) (q : Bk) (ho : o.length ≤ 1048576) (ha : a.length ≤ 1048576) :
    Fy Tryz.prog 67 [(.agg [(.int .i64 (q.1)), (.int .i64 (q.2.1)), (.int .i64 (q.2.2))]), (.ptr 0 0), (.ptr 1 0)] [(0, (.row [(.own 2)] 53)), (1, (.row [(Af (Ar a o))] 26)), (2, (.grow (o.map A2) 66 3))] 3 (.tup []) [(0, (.row [(.own 2)] 53)), (1, (.row [(Af (Ar a (o ++ [q])))] 26)), (2, (.grow ((o ++ [q]).map A2) 66 3))] := by
  have hal := T0 a o
  have hol : (o.map A2).length = o.length := List.length_map _
  refine Kp [] Tryz.func67 rfl Tryz.ntmps67 rfl rfl (by kernel_rfl) (by kernel_rfl) (by kernel_rfl) (fun B F hF => ?_)
  refine Aa [] [1, 2, 3] ?_
  refine Ah [] [2, 3] [(0, 3)] hk0 v0 (cc 3 (p := (((o.map A2).length + 1) * 24 ≤ 140737488355328)) (by first | omega | (simp; omega) | (simp; done) | (intros; simp_all; omega) | (intros; simp_all; done)) <| c0) ?_
  refine Ap ?_
  refine Av 0 [] [] [(3, 10)] (hk 3 Z9 ((Q3m (Ar a o) [q] (by omega) (by simp)).to (Same.of_eq (by rw [X23]))) <| hk0) (vk 3 10 (b := (Ac 3 A2 [q])) (Imp.list (f := A2) rfl) <| v0) c0 ?_
  refine D7 (.inr rfl) (al := []) (by kernel_rfl) ?_ ((by kernel_rfl : Dc 3 _ = some [(0, (.row [(.own 2)] 53)), (1, (.row [(Af (Ar a (o ++ [q])))] 26)), (2, (.grow ((o.map A2) ++ ([(.agg [(.int .i64 (q.1)), (.int .i64 (q.2.1)), (.int .i64 (q.2.2))])] : List AV)) 66 3))]).trans ?_)
  · rfl
  · rw [List.map_append]; rfl
theorem Rq (st : PoolT) (hi : IdxOk st) (w : List Int) (d : DepT) (hd : d.size ≤ 4194304) (hw : w.length ≤ 4611686018427387904) :
    FnV Tryz.prog 72 [(.agg [(.int .i64 (d.kind)), (.str (d.name)), (.int .i64 (d.op)), (.str (d.evr)), (.row 5 d.args.length (depAt d.args))]), (.fp (.agg [(.fp (A3 st))])), (.fp (.agg [(Af w)]))] (.bool ((C2 Ab st d w).1)) := by
  refine A4 [.tmp 4] Tryz.func72 rfl Tryz.ntmps72 rfl rfl (fun B F hF => ?_)
  refine Ah [] [1, 2, 3] [(1, 3)] hk0 v0 c0 ?_
  refine Ah [] [5] [] (hk 3 X00 (X44 Ab X9 st hi d w hd hw) <| hk0) v0 c0 ?_
  refine Aa [] [4] ?_
  refine Ag ?_
  refine RK wR [(.bool ((C2 Ab st d w).1))] ?_
  exact Same.of_eq (by first | rfl | (simp only [Ak]; simp_all))
theorem O7 (st : PoolT) (hi0 : IdxOk st) (th : List Int) (ht : th.length ≤ 4194303) (id : Int) (l : List DepT) (hll : l.length ≤ 4194304) (hl : ∀ i, i < l.length → (nth l i).size ≤ 4194304) :
    Fy Tryz.prog 68 [(.int .i64 (id)), (Ac 5 Al l), (.ptr 0 0), (.fp (.agg [(.fp (A3 st))]))] [(0, (.row [(Af th)] 26))] 1 (Ac 5 Al (A7 Ab st th id l)) [(0, (.row [(Af th)] 26))] := by
  have hul := Uv th [id]
  rw [List.length_singleton] at hul
  have hle := Li (fun d => (C2 Ab st d (Aw th [id])).1) l
  refine Kp [.tmp 6] Tryz.func68 rfl Tryz.ntmps68 rfl rfl (by kernel_rfl) (by kernel_rfl) (by kernel_rfl) (fun B F hF => ?_)
  refine Aa [] [0, 1, 2, 3] ?_
  refine Ah [] [1, 3, 7] [(3, 10)] (hk 3 S3 (Sg th [id] (by omega) (by simp)) <| hk0) (vk 3 10 (b := (Af [id])) (Imp.list (f := AV.int .i64) rfl) <| v0) c0 ?_
  refine Ad ?_
  refine Ap ?_
  refine Bq 1 0 [] [3, 7, 12] [] hk0 v0 c0 ?_
  refine Jl [.tmp 2] (al := [(Ac 5 Al l)]) (s0 := [(3, (.fp (.agg [(.fp (A3 st))]))), (7, (.ptr 2 0)), (12, (Ac 5 Al l))]) (by kernel_rfl) (by exact Zy) (by kernel_rfl) Tryz.func71 rfl Tryz.ntmps71 rfl (by kernel_rfl) (by kernel_rfl) (fun F1 hF1 hle1 => ?_)
  refine Aa [] [0] ?_
  refine Ad ?_
  refine Ad ?_
  refine Ap ?_
  refine Bq 1 0 [] [0, 3] [] hk0 v0 c0 ?_
  refine Qj (G := I0 (Ac 5 Al l)) (sz := 5) (m := l.length) (e := 25) (by kernel_rfl) (by kernel_rfl) (by kernel_rfl) (by kernel_rfl) (fun nq1_1 => ⟨[(0, (Ac 5 Al l)), (3, (Ac 5 Al l)), (4, (.bool (nq1_1)))], by kernel_rfl, fun hnq1_1 => ?_⟩)
  refine Bx ?_
  refine Bd (q := nq1_1) (by kernel_rfl) (fun c1 => ?_) (fun c1 => ?_)
  · try simp only [Ao] at c1
    refine Aa [] [2] ?_
    refine Ag ?_
    refine Gp (.inl rfl) (al := [.nils]) (s' := [(3, (.fp (.agg [(.fp (A3 st))]))), (7, (.ptr 2 0)), (12, (Ac 5 Al l)), (13, .nils)]) (by kernel_rfl) (by kernel_rfl) ?_
    refine Bq 1 2 [] [13, 14] [(2, 7)] hk0 v0 c0 ?_
    refine Jl [.tmp 4] (al := [.nils, (.fn 72 [] [(.fp (.agg [(.fp (A3 st))])), (.fp (.agg [(Af (Aw th [id]))]))])]) (s0 := [(13, .nils), (14, (.fn 72 [] [(.fp (.agg [(.fp (A3 st))])), (.fp (.agg [(Af (Aw th [id]))]))]))]) (by kernel_rfl) (by exact Zz) (by kernel_rfl) Tryz.func70 rfl Tryz.ntmps70 rfl (by kernel_rfl) (by kernel_rfl) (fun F2 hF2 hle2 => ?_)
    refine Aa [] [0, 1] ?_
    refine Ad ?_
    refine Ap ?_
    refine Bq 2 0 [] [0, 1, 8, 9] [] hk0 v0 c0 ?_
    refine Iu (s' := [(0, .nils), (1, (.fn 72 [] [(.fp (.agg [(.fp (A3 st))])), (.fp (.agg [(Af (Aw th [id]))]))])), (8, .nils), (9, (.fn 72 [] [(.fp (.agg [(.fp (A3 st))])), (.fp (.agg [(Af (Aw th [id]))]))])), (10, (.int .i64 (-1)))]) (al := [.nils, (.fn 72 [] [(.fp (.agg [(.fp (A3 st))])), (.fp (.agg [(Af (Aw th [id]))]))])]) (al' := [.nils, (.fn 72 [] [(.fp (.agg [(.fp (A3 st))])), (.fp (.agg [(Af (Aw th [id]))]))])]) (h' := [(0, (.row [(Af th)] 26))]) (r := (.int .i64 (-1))) (by kernel_rfl) (by exact Tb) (by kernel_rfl) (by kernel_rfl) (((Tg [] (.fn 72 [] [(.fp (.agg [(.fp (A3 st))])), (.fp (.agg [(Af (Aw th [id]))]))]) (fun d => (C2 Ab st d (Aw th [id])).1) (by first | omega | simp) (fun i hi => FunV.of (by exact S2) (Rq st hi0 (Aw th [id]) (nth [] i) (by first | omega | (exact hl i hi) | (simp at hi)) (by omega)))).of_args (ImpL.cons Imp.nil (ImpL.cons (Imp.clo (by kernel_rfl)) ImpL.nil))).to (Same.of_eq rfl)) rfl (by kernel_rfl) ?_
    refine Av 3 [] [0, 1, 5] [] hk0 v0 c0 ?_
    refine Ad ?_
    refine Aa [] [0, 1, 5, 12] ?_
    refine Gh (by kernel_rfl) ?_
    refine Aa [] [4] ?_
    refine Ag ?_
    refine Gp (.inl rfl) (al := [.nils]) (s' := [(13, .nils), (14, (.fn 72 [] [(.fp (.agg [(.fp (A3 st))])), (.fp (.agg [(Af (Aw th [id]))]))])), (15, .nils)]) (by kernel_rfl) (by kernel_rfl) ?_
    refine Av 4 [] [6] [] hk0 (vk 4 15 (a := .nils) (b := (Ac 5 Al (A7 Ab st th id l))) (show Imp .nils (Ac 5 Al (A7 Ab st th id l)) from Q79 (List.length_eq_zero_iff.1 (by have := hnq1_1 (by simp_all); simp_all))) <| v0) c0 ?_
    refine Ag ?_
    refine D7 (.inl rfl) (al := [(Ac 5 Al (A7 Ab st th id l))]) (by kernel_rfl) ?_ ((by kernel_rfl : Dc 1 _ = some [(0, (.row [(Af th)] 26))]).trans ?_)
    · rfl
    · rfl
  · try simp only [Ao] at c1
    refine Ai ?_
    refine Ah [] [2] [] hk0 v0 (cc 2 (p := ((([] : List AV).length + l.length) * 72 ≤ 140737488355328)) (by first | omega | (simp; omega) | (simp; done) | (intros; simp_all; omega) | (intros; simp_all; done)) <| c0) ?_
    refine Ag ?_
    refine Gp (.inl rfl) (al := [(.own 4)]) (s' := [(3, (.fp (.agg [(.fp (A3 st))]))), (7, (.ptr 2 0)), (12, (Ac 5 Al l)), (13, (.own 4))]) (by kernel_rfl) (by kernel_rfl) ?_
    refine Bq 1 2 [] [13, 14] [(2, 7)] hk0 v0 c0 ?_
    refine Jl [.tmp 4] (al := [(.own 4), (.fn 72 [] [(.fp (.agg [(.fp (A3 st))])), (.fp (.agg [(Af (Aw th [id]))]))])]) (s0 := [(13, Bm), (14, (.fn 72 [] [(.fp (.agg [(.fp (A3 st))])), (.fp (.agg [(Af (Aw th [id]))]))]))]) (by kernel_rfl) (by exact Zz) (by kernel_rfl) Tryz.func70 rfl Tryz.ntmps70 rfl (by kernel_rfl) (by kernel_rfl) (fun F3 hF3 hle3 => ?_)
    have hF3 : F3.lo = 5 := hF3.trans (by kernel_rfl)
    refine Aa [] [0, 1] ?_
    refine Ad ?_
    refine Ap ?_
    refine Bq 2 0 [] [0, 1, 8, 9] [] hk0 v0 c0 ?_
    refine Iu (s' := [(0, (.own 4)), (1, (.fn 72 [] [(.fp (.agg [(.fp (A3 st))])), (.fp (.agg [(Af (Aw th [id]))]))])), (8, (.own 4)), (9, (.fn 72 [] [(.fp (.agg [(.fp (A3 st))])), (.fp (.agg [(Af (Aw th [id]))]))])), (10, (.int .i64 (Bz (fun d => (C2 Ab st d (Aw th [id])).1) l)))]) (al := [(.own 4), (.fn 72 [] [(.fp (.agg [(.fp (A3 st))])), (.fp (.agg [(Af (Aw th [id]))]))])]) (al' := [(.row 5 (([] : List AV) ++ ((List.range l.length).map (fun kx => ((.agg [(.int .i64 ((nth l kx).kind)), (.str ((nth l kx).name)), (.int .i64 ((nth l kx).op)), (.str ((nth l kx).evr)), (.row 5 (nth l kx).args.length (depAt (nth l kx).args))]) : AV)))).length (fun ix => (([] : List AV) ++ ((List.range l.length).map (fun kx => ((.agg [(.int .i64 ((nth l kx).kind)), (.str ((nth l kx).name)), (.int .i64 ((nth l kx).op)), (.str ((nth l kx).evr)), (.row 5 (nth l kx).args.length (depAt (nth l kx).args))]) : AV)))).getD ix Bm)), (.fn 72 [] [(.fp (.agg [(.fp (A3 st))])), (.fp (.agg [(Af (Aw th [id]))]))])]) (h' := [(0, (.row [(Af th)] 26))]) (r := (.int .i64 (Bz (fun d => (C2 Ab st d (Aw th [id])).1) l))) (by kernel_rfl) (by exact Tb) (by kernel_rfl) (by kernel_rfl) ((Tg l (.fn 72 [] [(.fp (.agg [(.fp (A3 st))])), (.fp (.agg [(Af (Aw th [id]))]))]) (fun d => (C2 Ab st d (Aw th [id])).1) (by first | omega | simp) (fun i hi => FunV.of (by exact S2) (Rq st hi0 (Aw th [id]) (nth l i) (by first | omega | (exact hl i hi) | (simp at hi)) (by omega)))).of_args (ImpL.cons (Q6a (K3 Al)) (ImpL.cons (Imp.clo (by kernel_rfl)) ImpL.nil))) rfl (by kernel_rfl) ?_
    refine Av 3 [] [0, 1, 5] [] hk0 v0 c0 ?_
    refine Ad ?_
    refine Aa [] [0, 1, 5, 12] ?_
    refine A6 (p := (Bz (fun d => (C2 Ab st d (Aw th [id])).1) l) = (-1)) (by kernel_rfl) (fun c2 => ?_) (fun c2 => ?_)
    · skip
      refine Aa [] [4] ?_
      refine Ag ?_
      refine Gp (.inl rfl) (al := [(.own 4)]) (s' := [(13, Bm), (14, (.fn 72 [] [(.fp (.agg [(.fp (A3 st))])), (.fp (.agg [(Af (Aw th [id]))]))])), (15, (.own 4))]) (by kernel_rfl) (by kernel_rfl) ?_
      refine Av 4 [] [6] [(4, 15)] hk0 (vk 4 15 (b := (Ac 5 Al (A7 Ab st th id l))) (show Imp (.row 5 (([] : List AV) ++ ((List.range l.length).map (fun kx => ((.agg [(.int .i64 ((nth l kx).kind)), (.str ((nth l kx).name)), (.int .i64 ((nth l kx).op)), (.str ((nth l kx).evr)), (.row 5 (nth l kx).args.length (depAt (nth l kx).args))]) : AV)))).length (fun ix => (([] : List AV) ++ ((List.range l.length).map (fun kx => ((.agg [(.int .i64 ((nth l kx).kind)), (.str ((nth l kx).name)), (.int .i64 ((nth l kx).op)), (.str ((nth l kx).evr)), (.row 5 (nth l kx).args.length (depAt (nth l kx).args))]) : AV)))).getD ix Bm)) (Ac 5 Al (A7 Ab st th id l)) from Q8a (by assumption) (K3 Al)) <| v0) c0 ?_
      refine Ag ?_
      refine D7 (.inl rfl) (al := [(Ac 5 Al (A7 Ab st th id l))]) (by kernel_rfl) ?_ ((by kernel_rfl : Dc 1 _ = some [(0, (.row [(Af th)] 26))]).trans ?_)
      · rfl
      · rfl
    · skip
      refine Ai ?_
      refine Ad ?_
      refine Ah [] [0, 1, 5, 6] [] hk0 v0 (cc 1 (p := (-9223372036854775808 ≤ (Bz (fun d => (C2 Ab st d (Aw th [id])).1) l) + 1 ∧ (Bz (fun d => (C2 Ab st d (Aw th [id])).1) l) + 1 ≤ 9223372036854775807)) (by first | omega | (simp; omega) | (simp; done) | (intros; simp_all; omega) | (intros; simp_all; done)) <| c0) ?_
      refine A1 ?_
      refine Bv (fun g y => ∃ (i j : Nat) (T : List DepT), i < j ∧ j ≤ l.length ∧ T.length = l.length ∧ T.drop j = l.drop j ∧ T.take i = A7 Ab st th id (l.take j) ∧ y = ⟨[(0, (.own 4)), (1, (.fn 72 [] [(.fp (.agg [(.fp (A3 st))])), (.fp (.agg [(Af (Aw th [id]))]))])), (5, (.int .i64 ((i : Int)))), (6, (.int .i64 ((j : Int))))], [(0, (.row [(Af th)] 26)), (4, (.grow (T.map Al) 25 5))], 5⟩ ∧ g = l.length - j) [0, 1, 5, 6] 5 _ (by omega) ⟨(Bz (fun d => (C2 Ab st d (Aw th [id])).1) l).toNat, (Bz (fun d => (C2 Ab st d (Aw th [id])).1) l).toNat + 1, l, (by omega), (by omega), (by rfl), (by rfl), (by exact (Zq _ l (by omega)).symm), (Eq.trans (b := (⟨[(0, (.own 4)), (1, (.fn 72 [] [(.fp (.agg [(.fp (A3 st))])), (.fp (.agg [(Af (Aw th [id]))]))])), (5, (.int .i64 (Bz (fun d => (C2 Ab st d (Aw th [id])).1) l))), (6, (.int .i64 ((Bz (fun d => (C2 Ab st d (Aw th [id])).1) l) + 1)))], [(0, (.row [(Af th)] 26)), (4, (.grow (([] : List AV) ++ ((List.range l.length).map (fun kx => ((.agg [(.int .i64 ((nth l kx).kind)), (.str ((nth l kx).name)), (.int .i64 ((nth l kx).op)), (.str ((nth l kx).evr)), (.row 5 (nth l kx).args.length (depAt (nth l kx).args))]) : AV)))) 25 5))], 5⟩ : St)) (by kernel_rfl) (by rw [show (((Bz (fun d => (C2 Ab st d (Aw th [id])).1) l).toNat + 1 : Nat) : Int) = Bz (fun d => (C2 Ab st d (Aw th [id])).1) l + 1 from by omega, show (((Bz (fun d => (C2 Ab st d (Aw th [id])).1) l).toNat : Nat) : Int) = Bz (fun d => (C2 Ab st d (Aw th [id])).1) l from by omega, show l.map Al = [] ++ (List.range l.length).map (fun kx => Al (nth l kx)) from (K3 Al).symm] <;> kernel_rfl)), rfl⟩ ?_
      rintro g1 y1 ⟨i, j, T, hij, hjl, hTl, hTd, hTt, rfl, rfl⟩
      have htl : (T.map Al).length = T.length := List.length_map _
      have hdj : j < l.length → (nth T j).size ≤ 4194304 := fun h => by rw [Pt hTd]; exact hl j h
      refine Ad ?_
      refine Aa [] [0, 1, 5, 6, 19] ?_
      refine A6 (p := (j : Int) < ((T.map Al).length : Int)) (by kernel_rfl) (fun c3 => ?_) (fun c3 => ?_)
      · skip
        refine Ai ?_
        refine Ad ?_
        refine A1 ?_
        refine Ad ?_
        refine Ap ?_
        refine Bq 2 0 [] [0, 1, 5, 6, 22, 23] [] hk0 v0 c0 ?_
        refine L5 (b := 4) (i := j) (es := T.map Al) (e := 25) (sz := 5) (k := .i64) (s' := [(0, (.own 4)), (1, (.fn 72 [] [(.fp (.agg [(.fp (A3 st))])), (.fp (.agg [(Af (Aw th [id]))]))])), (5, (.int .i64 ((i : Int)))), (6, (.int .i64 ((j : Int)))), (22, (.own 4)), (23, (.int .i64 ((j : Int)))), (24, (.op 4 (j * 5)))]) (by kernel_rfl) (by kernel_rfl) (by kernel_rfl) (by kernel_rfl) (by kernel_rfl) (by kernel_rfl) (by first | omega | (simp; omega) | (simp; done) | (intros; simp_all; omega) | (intros; simp_all; done)) (by kernel_rfl) ?_
        refine Qi (b := 4) (e := 25) (sz := 5) (es := T.map Al) (o := j * 5) (i := j) (j := 0) (a := (.agg [(.int .i64 ((nth T j).kind)), (.str ((nth T j).name)), (.int .i64 ((nth T j).op)), (.str ((nth T j).evr)), (.row 5 (nth T j).args.length (depAt (nth T j).args))])) (r := (.agg [(.int .i64 ((nth T j).kind)), (.str ((nth T j).name)), (.int .i64 ((nth T j).op)), (.str ((nth T j).evr)), (.row 5 (nth T j).args.length (depAt (nth T j).args))])) (s' := [(0, (.own 4)), (1, (.fn 72 [] [(.fp (.agg [(.fp (A3 st))])), (.fp (.agg [(Af (Aw th [id]))]))])), (5, (.int .i64 ((i : Int)))), (6, (.int .i64 ((j : Int)))), (22, (.own 4)), (23, (.int .i64 ((j : Int)))), (24, (.op 4 (j * 5))), (25, (.agg [(.int .i64 ((nth T j).kind)), (.str ((nth T j).name)), (.int .i64 ((nth T j).op)), (.str ((nth T j).evr)), (.row 5 (nth T j).args.length (depAt (nth T j).args))]))]) (by kernel_rfl) (by kernel_rfl) rfl (by kernel_rfl) (Ll (l := T) Al (by omega)) (by kernel_rfl) (by kernel_rfl) ?_
        refine Av 4 [] [0, 1, 5, 6, 7] [] hk0 v0 c0 ?_
        refine Ad ?_
        refine Ap ?_
        refine Bq 2 0 [] [0, 1, 5, 6, 7, 26, 27] [(0, 7)] hk0 v0 c0 ?_
        refine Q24 (f := 72) (cap := [(.fp (.agg [(.fp (A3 st))])), (.fp (.agg [(Af (Aw th [id]))]))]) (s' := [(0, (.own 4)), (1, (.fn 72 [] [(.fp (.agg [(.fp (A3 st))])), (.fp (.agg [(Af (Aw th [id]))]))])), (5, (.int .i64 ((i : Int)))), (6, (.int .i64 ((j : Int)))), (7, (.fp (.agg [(.int .i64 ((nth T j).kind)), (.str ((nth T j).name)), (.int .i64 ((nth T j).op)), (.str ((nth T j).evr)), (.row 5 (nth T j).args.length (depAt (nth T j).args))]))), (26, (.fn 72 [] [(.fp (.agg [(.fp (A3 st))])), (.fp (.agg [(Af (Aw th [id]))]))])), (27, (.agg [(.int .i64 ((nth T j).kind)), (.str ((nth T j).name)), (.int .i64 ((nth T j).op)), (.str ((nth T j).evr)), (.row 5 (nth T j).args.length (depAt (nth T j).args))])), (28, (.bool ((C2 Ab st (nth T j) (Aw th [id])).1)))]) (al := [(.agg [(.int .i64 ((nth T j).kind)), (.str ((nth T j).name)), (.int .i64 ((nth T j).op)), (.str ((nth T j).evr)), (.row 5 (nth T j).args.length (depAt (nth T j).args))])]) (r := (.bool ((C2 Ab st (nth T j) (Aw th [id])).1))) (by kernel_rfl) (by kernel_rfl) (by exact S2) (by kernel_rfl) (by kernel_rfl) (Rq st hi0 (Aw th [id]) (nth T j) (hdj (by omega)) (by omega)) (by kernel_rfl) ?_
        refine Av 3 [] [0, 1, 5, 6, 7, 29] [] hk0 v0 c0 ?_
        refine Bd (q := !((C2 Ab st (nth T j) (Aw th [id])).1)) (by kernel_rfl) (fun c4 => ?_) (fun c4 => ?_)
        · try simp only [Ao] at c4
          refine Ad ?_
          refine Ap ?_
          refine Bq 3 0 [] [0, 1, 5, 6, 30, 31, 32] [] hk0 v0 c0 ?_
          refine L5 (b := 4) (i := i) (es := T.map Al) (e := 25) (sz := 5) (k := .i64) (s' := [(0, (.own 4)), (1, (.fn 72 [] [(.fp (.agg [(.fp (A3 st))])), (.fp (.agg [(Af (Aw th [id]))]))])), (5, (.int .i64 ((i : Int)))), (6, (.int .i64 ((j : Int)))), (30, (.own 4)), (31, (.int .i64 ((i : Int)))), (32, (.agg [(.int .i64 ((nth T j).kind)), (.str ((nth T j).name)), (.int .i64 ((nth T j).op)), (.str ((nth T j).evr)), (.row 5 (nth T j).args.length (depAt (nth T j).args))])), (33, (.op 4 (i * 5)))]) (by kernel_rfl) (by kernel_rfl) (by kernel_rfl) (by kernel_rfl) (by kernel_rfl) (by kernel_rfl) (by first | omega | (simp; omega) | (simp; done) | (intros; simp_all; omega) | (intros; simp_all; done)) (by kernel_rfl) ?_
          refine Q22 (b := 4) (e := 25) (sz := 5) (es := T.map Al) (o := i * 5) (i := i) (j := 0) (a := (.agg [(.int .i64 ((nth T i).kind)), (.str ((nth T i).name)), (.int .i64 ((nth T i).op)), (.str ((nth T i).evr)), (.row 5 (nth T i).args.length (depAt (nth T i).args))])) (r := (.agg [(.int .i64 ((nth T j).kind)), (.str ((nth T j).name)), (.int .i64 ((nth T j).op)), (.str ((nth T j).evr)), (.row 5 (nth T j).args.length (depAt (nth T j).args))])) (v := (.agg [(.int .i64 ((nth T j).kind)), (.str ((nth T j).name)), (.int .i64 ((nth T j).op)), (.str ((nth T j).evr)), (.row 5 (nth T j).args.length (depAt (nth T j).args))])) (s' := [(0, (.own 4)), (1, (.fn 72 [] [(.fp (.agg [(.fp (A3 st))])), (.fp (.agg [(Af (Aw th [id]))]))])), (5, (.int .i64 ((i : Int)))), (6, (.int .i64 ((j : Int)))), (30, (.own 4)), (31, (.int .i64 ((i : Int)))), (32, (.agg [(.int .i64 ((nth T j).kind)), (.str ((nth T j).name)), (.int .i64 ((nth T j).op)), (.str ((nth T j).evr)), (.row 5 (nth T j).args.length (depAt (nth T j).args))])), (33, (.op 4 (i * 5)))]) (by kernel_rfl) (by kernel_rfl) rfl (by kernel_rfl) (by kernel_rfl) (Ll (l := T) Al (by omega)) (by kernel_rfl) (by kernel_rfl) ?_
          refine Bx ?_
          refine Ap ?_
          refine Av 0 [] [0, 1, 5, 6] [] hk0 v0 (cc 1 (p := (-9223372036854775808 ≤ (i : Int) + 1 ∧ (i : Int) + 1 ≤ 9223372036854775807)) (by first | omega | (simp; omega) | (simp; done) | (intros; simp_all; omega) | (intros; simp_all; done)) <| c0) ?_
          refine Ap ?_
          refine Av 0 [] [0, 1, 5, 6] [] hk0 v0 (cc 1 (p := (-9223372036854775808 ≤ (j : Int) + 1 ∧ (j : Int) + 1 ≤ 9223372036854775807)) (by first | omega | (simp; omega) | (simp; done) | (intros; simp_all; omega) | (intros; simp_all; done)) <| c0) ?_
          have hk := Q8g (p := (fun d => !(C2 Ab st d (Aw th [id])).1)) (T := T) (l := l) (i := i) (j := j) (by omega) (by omega) (by assumption) (by assumption) (by assumption) (by show (!_) = true; rw [c4]; rfl)
          refine ⟨by kernel_rfl, _, ?_, i + 1, j + 1, (T.set i (nth T j)), ?_, ?_, ?_, ?_, ?_, (Eq.trans (b := (⟨[(0, (.own 4)), (1, (.fn 72 [] [(.fp (.agg [(.fp (A3 st))])), (.fp (.agg [(Af (Aw th [id]))]))])), (5, (.int .i64 ((i : Int) + 1))), (6, (.int .i64 ((j : Int) + 1)))], [(0, (.row [(Af th)] 26)), (4, (.grow ((T.map Al).set i (.agg [(.int .i64 ((nth T j).kind)), (.str ((nth T j).name)), (.int .i64 ((nth T j).op)), (.str ((nth T j).evr)), (.row 5 (nth T j).args.length (depAt (nth T j).args))])) 25 5))], 5⟩ : St)) (by kernel_rfl) (by rw [show (T.set i (nth T j)).map Al = (T.map Al).set i (Al (nth T j)) from List.map_set ..] <;> kernel_rfl)), rfl⟩
          · omega
          · omega
          · omega
          · rw [List.length_set]; assumption
          · exact hk.1
          · exact hk.2
        · try simp only [Ao] at c4
          refine Ai ?_
          refine Ap ?_
          refine Av 0 [] [0, 1, 5, 6] [] hk0 v0 (cc 1 (p := (-9223372036854775808 ≤ (j : Int) + 1 ∧ (j : Int) + 1 ≤ 9223372036854775807)) (by first | omega | (simp; omega) | (simp; done) | (intros; simp_all; omega) | (intros; simp_all; done)) <| c0) ?_
          refine ⟨by kernel_rfl, _, ?_, i, j + 1, T, ?_, ?_, ?_, ?_, ?_, (by kernel_rfl), rfl⟩
          · omega
          · omega
          · omega
          · assumption
          · exact Q0z (by assumption)
          · exact Q8h (p := (fun d => !(C2 Ab st d (Aw th [id])).1)) (by omega) (by assumption) (by assumption) (by show (!_) = false; rw [c4]; rfl)
      · skip
        refine Br ?_
        refine Ad ?_
        refine Ap ?_
        refine Bq 2 0 [] [0, 5, 36, 37] [] hk0 v0 c0 ?_
        refine X4d (b := 4) (i := i) (es := T.map Al) (e := 25) (sz := 5) (k := .i64) (z := ((.agg [(.int .i64 (0)), (.str ([])), (.int .i64 (0)), (.str ([])), .nils]) : AV)) (s1 := [(0, (.own 4)), (5, (.int .i64 ((i : Int)))), (36, (.own 4)), (37, (.int .i64 ((i : Int)))), (38, (.cond (false) (.str ([]))))]) (s2 := [(0, (.own 4)), (5, (.int .i64 ((i : Int)))), (36, (.own 4)), (37, (.int .i64 ((i : Int)))), (38, (.cond (false) (.str ([]))))]) (by kernel_rfl) (by kernel_rfl) (by kernel_rfl) (by kernel_rfl) (by kernel_rfl) (by kernel_rfl) (by kernel_rfl) (by first | omega | (simp; omega) | (simp; done) | (intros; simp_all; omega) | (intros; simp_all; done)) (by kernel_rfl) (by kernel_rfl) (by kernel_rfl) (by kernel_rfl) (by kernel_rfl) ?_
        refine Bx ?_
        refine Ad ?_
        refine Ap ?_
        refine Bq 1 0 [] [5, 39] [] hk0 v0 c0 ?_
        refine T9 39 (y := ⟨[(5, (.int .i64 ((i : Int)))), (39, (.row 5 ((T.map Al).take i ++ List.replicate ((T.map Al).length - i) ((.agg [(.int .i64 (0)), (.str ([])), (.int .i64 (0)), (.str ([])), .nils]) : AV)).length (fun ix => ((T.map Al).take i ++ List.replicate ((T.map Al).length - i) ((.agg [(.int .i64 (0)), (.str ([])), (.int .i64 (0)), (.str ([])), .nils]) : AV)).getD ix Bm)))], [(0, (.row [(Af th)] 26))], 5⟩) (by kernel_rfl) ?_
        refine Av 1 [] [4] [] hk0 v0 (cc 2 (p := (0 ≤ (0 : Int) ∧ (0 : Int) ≤ (i : Int) ∧ (i : Int) ≤ (((T.map Al).take i ++ List.replicate ((T.map Al).length - i) ((.agg [(.int .i64 (0)), (.str ([])), (.int .i64 (0)), (.str ([])), .nils]) : AV)).length : Int))) (by first | omega | (simp; omega) | (simp; done) | (intros; simp_all; omega) | (intros; simp_all; done)) <| c0) ?_
        refine Ag ?_
        refine Gp (.inl rfl) (al := [(.row 5 (i - 0) (fun kx => (((T.map Al).take i ++ List.replicate ((T.map Al).length - i) ((.agg [(.int .i64 (0)), (.str ([])), (.int .i64 (0)), (.str ([])), .nils]) : AV)).getD (0 + kx) Bm)))]) (s' := [(13, Bm), (14, (.fn 72 [] [(.fp (.agg [(.fp (A3 st))])), (.fp (.agg [(Af (Aw th [id]))]))])), (15, (.row 5 (i - 0) (fun kx => (((T.map Al).take i ++ List.replicate ((T.map Al).length - i) ((.agg [(.int .i64 (0)), (.str ([])), (.int .i64 (0)), (.str ([])), .nils]) : AV)).getD (0 + kx) Bm))))]) (by kernel_rfl) (by kernel_rfl) ?_
        refine Av 4 [] [6] [] hk0 (vk 4 15 (a := (.row 5 (i - 0) (fun kx => (((T.map Al).take i ++ List.replicate ((T.map Al).length - i) ((.agg [(.int .i64 (0)), (.str ([])), (.int .i64 (0)), (.str ([])), .nils]) : AV)).getD (0 + kx) Bm)))) (b := (Ac 5 Al (A7 Ab st th id l))) (show Imp (.row 5 (i - 0) (fun kx => (((T.map Al).take i ++ List.replicate ((T.map Al).length - i) ((.agg [(.int .i64 (0)), (.str ([])), (.int .i64 (0)), (.str ([])), .nils]) : AV)).getD (0 + kx) Bm))) (Ac 5 Al (A7 Ab st th id l)) from Q78 (T := T) (i := i) (hTt.trans (by rw [List.take_of_length_le (show l.length ≤ j by omega)])) (by omega)) <| v0) c0 ?_
        refine Ag ?_
        refine D7 (.inl rfl) (al := [(Ac 5 Al (A7 Ab st th id l))]) (by kernel_rfl) ?_ ((by kernel_rfl : Dc 1 _ = some [(0, (.row [(Af th)] 26))]).trans ?_)
        · rfl
        · rfl
end Sv
end Go.Proofs.YtlmloohlmlahfaaGreatDoor
end
section
namespace Go.Proofs.YtlmloohlmlahfaaGreatDoor
open Go Go.RowKit
namespace Sv
attribute [local irreducible] SW SO Bn
set_option maxHeartbeats 2000000
set_option maxRecDepth 100000
theorem S6 : Au Tryz.prog 23 := Ay Tryz.func23 (by kernel_rfl) rfl
noncomputable def B5 (x : Dn) : AV := .agg [.int .i64 x.1, .bool x.2.1, .int .i64 x.2.2.kind, .str x.2.2.name, .int .i64 x.2.2.op, .str x.2.2.evr, .row 5 x.2.2.args.length (depAt x.2.2.args)]
theorem Wg {p : PkgT} {n : Nat} (h : p.size ≤ n) : p.pre.length ≤ n ∧ p.requires.length ≤ n ∧ (∀ i, i < p.pre.length → (nth p.pre i).size ≤ n) ∧ ∀ i, i < p.requires.length → (nth p.requires i).size ≤ n := by
  have hz := p.sizes
  have h1 := Dr p.pre
  have h2 := Dr p.requires
  unfold PkgT.depSize at hz
  refine ⟨by omega, by omega, fun i hi => ?_, fun i hi => ?_⟩
  · have h2 := Kh (l := p.pre) (i := i) hi
    omega
  · have h2 := Kh (l := p.requires) (i := i) hi
    omega
theorem Q1l {k : List Dn} {l : List DepT} {n : Int} {p : Bool} {i : Nat} (h : i < l.length) : (k ++ (l.take (i + 1)).map (fun d => (n, p, d))).map B5 = (k ++ (l.take i).map (fun d => (n, p, d))).map B5 ++ [B5 (n, p, nth l i)] := by
  have e : k ++ (l.take (i + 1)).map (fun d => (n, p, d)) = (k ++ (l.take i).map (fun d => (n, p, d))) ++ [(n, p, nth l i)] := by rw [H4 h, List.map_append, ← List.append_assoc]; rfl
  rw [e, List.map_append]; rfl
theorem X2j {k : List Dn} {l l2 : List DepT} {n : Int} {i : Nat} (h : i = l.length) : (k ++ l.map (fun d => (n, true, d))) ++ (l2.take 0).map (fun d => (n, false, d)) = k ++ (l.take i).map (fun d => (n, true, d)) := by
  subst h; rw [List.take_zero, List.map_nil, List.append_nil, List.take_length]
theorem X2k {k : List Dn} {m : Fe} {st : PoolT} {th : List Int} {v p : Int} {i : Nat} (h : i = (A7 m st th v (B2 st v)).length) :
    k ++ Ij m st th v p = (k ++ (A7 m st th v (Bu st v)).map (fun d => (p, true, d))) ++ ((A7 m st th v (B2 st v)).take i).map (fun d => (p, false, d)) := by
  subst h; rw [List.take_length, List.append_assoc]; rfl
theorem Q6i {o q : List Bk} {v : Int} {i : Nat} (h : i = q.length) : o ++ Ex q v = (o ++ q.filter (ofB v)) ++ (q.take i).filter (C6 v) := by
  subst h; rw [List.take_length, List.append_assoc]; rfl
theorem Q9f {o q : List Bk} {p r : Bk → Bool} {i : Nat} (h : i = q.length) : (o ++ q.filter p) ++ (q.take 0).filter r = o ++ (q.take i).filter p := by
  subst h; rw [List.take_zero, List.filter_nil, List.append_nil, List.take_length]
theorem Sq {o q : List Bk} {p : Bk → Bool} {i : Nat} (h : i < q.length) (hp : p (nth q i) = true) : o ++ (q.take (i + 1)).filter p = (o ++ (q.take i).filter p) ++ [nth q i] := by
  rw [H4 h, List.filter_append, List.append_assoc]; simp [hp]
theorem Sr {o q : List Bk} {p : Bk → Bool} {i : Nat} (h : i < q.length) (hp : p (nth q i) = false) : o ++ (q.take (i + 1)).filter p = o ++ (q.take i).filter p := by
  rw [H4 h, List.filter_append]; simp [hp]
section
variable {m : Fe} {st : PoolT} {th c : List Int} {i : Nat} {bv : Int} {hf : Bool}
theorem R0 (h : i < c.length) : c.drop i = nth c i :: c.drop (i + 1) := by rw [Fk h]; exact List.drop_eq_getElem_cons h
theorem Q67 (h : i < c.length) (hp : 0 < (A7 m st th (nth c i) (Bu st (nth c i))).length) : Ev m st th (c.drop i) bv hf = Ev m st th (c.drop (i + 1)) bv hf := by rw [R0 h, Ev, if_pos hp]
theorem Xr (h : i < c.length) (hp : ¬ 0 < (A7 m st th (nth c i) (Bu st (nth c i))).length) (hr : (A7 m st th (nth c i) (B2 st (nth c i))).length = 0) : Ev m st th (c.drop i) bv hf = nth c i := by rw [R0 h, Ev, if_neg hp, if_pos hr]
theorem Xt (h : i < c.length) (hp : ¬ 0 < (A7 m st th (nth c i) (Bu st (nth c i))).length) (hr : ¬ (A7 m st th (nth c i) (B2 st (nth c i))).length = 0) : Ev m st th (c.drop i) bv hf = Ev m st th (c.drop (i + 1)) (if hf = true then bv else nth c i) true := by rw [R0 h, Ev, if_neg hp, if_neg hr]
theorem Xu (h : c.length ≤ i) : Ev m st th (c.drop i) bv hf = bv := by rw [List.drop_of_length_le h]; rfl
end
theorem Q6j {st : PoolT} {fr tw : List Int} {o : List Bk} {k : List Dn} (h : (Aj Ab st fr tw).2 = 0) (hF : (o, k) = Fa Ab st (Aj Ab st fr tw).1 fr (Ae tw fr).length (Ae tw fr) [] []) : E9 Ab st fr tw = (o ++ (Aj Ab st fr tw).1.filter De, k, 0) := by
  unfold E9
  rw [if_neg (by simp [h]), ← hF]
theorem Mq {st : PoolT} (hi : IdxOk st) {id : Int} (h : 0 ≤ id ∧ id < st.all.length) : (Bu st id).length ≤ 4194304 ∧ ∀ i, i < (Bu st id).length → (nth (Bu st id) i).size ≤ 4194304 := by
  have k := Wg (hi.2 id.toNat (by omega)); exact ⟨k.1, k.2.2.1⟩
theorem Mn {st : PoolT} (hi : IdxOk st) {id : Int} (h : 0 ≤ id ∧ id < st.all.length) : (B2 st id).length ≤ 4194304 ∧ ∀ i, i < (B2 st id).length → (nth (B2 st id) i).size ≤ 4194304 := by
  have k := Wg (hi.2 id.toNat (by omega)); exact ⟨k.2.1, k.2.2.2⟩
theorem T1 (o q : List Bk) (i : Nat) (p : Bk → Bool) : (o ++ (q.take i).filter p).length ≤ o.length + q.length := by
  have h1 := List.length_filter_le p (q.take i)
  have h2 := List.length_take_le i q
  have h3 : (q.take i).length ≤ q.length := by rw [List.length_take]; omega
  rw [List.length_append]; omega
theorem X25 (o q : List Bk) (p : Bk → Bool) : (o ++ q.filter p).length ≤ o.length + q.length := by
  have h1 := List.length_filter_le p q
  rw [List.length_append]; omega
theorem Q4b {st : PoolT} {a b : List Int} (h : (Aj Ab st a b).2 = 0) : (∀ x ∈ a, 0 ≤ x ∧ x < st.all.length) ∧ ∀ x ∈ b, 0 ≤ x ∧ x < st.all.length := by
  unfold Aj at h
  split at h
  · cases h
  · rename_i q
    exact ⟨P6 fun e => q (.inl e), P6 fun e => q (.inr e)⟩
theorem U7 {st : PoolT} (hi : IdxOk st) {a b : List Int} (ha : ∀ x ∈ a, 0 ≤ x ∧ x < st.all.length) (hb : ∀ x ∈ b, 0 ≤ x ∧ x < st.all.length) : (Aj Ab st a b).1.length ≤ 200 := by
  rw [Kx ha hb]
  show (Ek (B9 Ab st) a b).length ≤ 200
  rw [Q39]
  refine Nat.le_trans (Vr (N0 _ _) fun x hx => ?_) hi.1
  rcases unionZ_mem.1 hx with q | q
  · exact hb x (minusZ_mem.1 q).1
  · exact ha x (minusZ_mem.1 q).1
theorem Uh (st : PoolT) (hi : IdxOk st) (fr tw : List Int) (ha : fr.length ≤ 1048576) (hb : tw.length ≤ 1048576) :
    FnV Tryz.prog 23 [(.fp (Bo st)), (Af fr), (Af tw)] (.tup [Ac 3 A2 (E9 Ab st fr tw).1, Ac 7 B5 (E9 Ab st fr tw).2.1, .int .i64 (E9 Ab st fr tw).2.2]) := by
  refine A4 [.tmp 6, .tmp 7, .tmp 8] Tryz.func23 rfl Tryz.ntmps23 rfl rfl (fun B F hF => ?_)
  refine Aa [] [0, 1, 2] ?_
  refine T6 0 rfl (fun _ _ => False) [] 0 (by omega) (fun _ => ?_) (fun _ _ h => h.elim)
  refine Ah [] [0, 1, 2, 9, 10] [] (hk 3 Q0a (Q2z st hi fr tw (by omega) (by omega)) <| hk0) v0 c0 ?_
  refine Ad ?_
  refine Aa [] [0, 1, 2, 9, 10, 46] ?_
  refine Da (p := ((Aj Ab st fr tw).2) = 0) (by kernel_rfl) (fun c1 => ?_) (fun c1 => ?_)
  · skip
    refine Aa [] [6, 7, 8] ?_
    refine Ag ?_
    refine RK wR [.nils, .nils, (.int .i64 ((Aj Ab st fr tw).2))] ?_
    rw [show E9 Ab st fr tw = ([], [], (Aj Ab st fr tw).2) from by unfold E9; rw [if_pos c1]]
    simp only [Ak]
    exact (Imp.tups (ImpL.cons (Imp.nil (f := A2)) (ImpL.cons (Imp.nil (f := B5)) (ImpL.cons Imp.refl ImpL.nil)))).same
  · skip
    have hk := Q4b (st := st) (a := fr) (b := tw) c1
    obtain ⟨hra, hrb⟩ := hk
    have hq := Kx (m := Ab) hra hrb
    have hcb : ∀ x ∈ Ae tw fr, 0 ≤ x ∧ x < st.all.length := fun x hx => hrb x (minusZ_mem.1 hx).1
    have hcl : (Ae tw fr).length ≤ 200 := Nat.le_trans (Vr (I4 _ _) hcb) hi.1
    have hql : (Aj Ab st fr tw).1.length ≤ 200 := U7 hi hra hrb
    refine Ai ?_
    refine Ah [] [0, 1, 2, 9, 11] [] (hk 1 Q0x (Wa st hi.1 hi.2) <| hk0) v0 c0 ?_
    refine Ah [] [0, 1, 2, 9, 11, 12] [] (hk 1 Po (Pd fr (by omega)) <| hk0) v0 c0 ?_
    refine Aa [] [0, 1, 2, 9, 11, 12, 13] ?_
    refine Aa [] [0, 1, 2, 9, 11, 12, 13, 14] ?_
    refine Aa [] [0, 1, 2, 9, 11, 12, 13, 14, 15] ?_
    refine Ah [] [0, 1, 2, 9, 13, 14, 15, 16] [(0, 11)] hk0 v0 c0 ?_
    refine Ah [] [0, 9, 13, 14, 15, 16, 17] [] (hk 2 Ng (M7 tw fr (by omega) (by first | omega | simp)) <| hk0) v0 c0 ?_
    refine Ad ?_
    refine T7 ?_
    refine Ad ?_
    refine A1 ?_
    refine Qd 79 7 14 (y := ⟨[(0, (.fp (Bo st))), (9, (Ac 3 A2 ((Aj Ab st fr tw).1))), (13, (.ptr 2 0)), (14, (.own 3)), (15, (.fn 67 [] [(.ptr 2 0), (.ptr 1 0)])), (16, (.fn 68 [] [(.ptr 1 0), (.fp (.agg [(.fp (A3 st))]))])), (17, (Af (Ae tw fr)))], [(1, (.row [(Af (Cj fr))] 26)), (2, (.row [.nils] 53)), (3, (.grow [] 79 7))], 4⟩) (by kernel_rfl) (by kernel_rfl) ?_
    refine L3 66 3 2 0 (y := ⟨[(0, (.fp (Bo st))), (9, (Ac 3 A2 ((Aj Ab st fr tw).1))), (13, (.ptr 2 0)), (14, (.own 3)), (15, (.fn 67 [] [(.ptr 2 0), (.ptr 1 0)])), (16, (.fn 68 [] [(.ptr 1 0), (.fp (.agg [(.fp (A3 st))]))])), (17, (Af (Ae tw fr)))], [(1, (.row [(Af (Cj fr))] 26)), (2, (.row [(.own 4)] 53)), (3, (.grow [] 79 7)), (4, (.grow [] 66 3))], 5⟩) (by kernel_rfl) (by kernel_rfl) ?_
    refine Bv (fun g y => ∃ (n : Nat) (c : List Int) (o : List Bk) (k : List Dn), c.length ≤ n ∧ Cr c ∧ (∀ x ∈ c, 0 ≤ x ∧ x < st.all.length) ∧ o.length + 400 * c.length ≤ 80000 ∧ k.length + 8388608 * c.length ≤ 1677721600 ∧ Fa Ab st (Aj Ab st fr tw).1 fr n c o k = Fa Ab st (Aj Ab st fr tw).1 fr (Ae tw fr).length (Ae tw fr) [] [] ∧ y = ⟨[(0, (.fp (Bo st))), (9, (Ac 3 A2 ((Aj Ab st fr tw).1))), (13, (.ptr 2 0)), (14, (.own 3)), (15, (.fn 67 [] [(.ptr 2 0), (.ptr 1 0)])), (16, (.fn 68 [] [(.ptr 1 0), (.fp (.agg [(.fp (A3 st))]))])), (17, (Af c))], [(1, (.row [(Af (Ar fr o))] 26)), (2, (.row [(.own 4)] 53)), (3, (.grow (k.map B5) 79 7)), (4, (.grow (o.map A2) 66 3))], 5⟩ ∧ g = c.length) [0, 9, 13, 14, 15, 16, 17] 5 _ (by omega) ⟨(Ae tw fr).length, (Ae tw fr), [], [], (by omega), (by exact I4 _ _), (by exact hcb), (by simp; omega), (by simp; omega), (by rfl), (by kernel_rfl), rfl⟩ ?_
    rintro g1 y1 ⟨n, c, o, k, hcn, hcr, hci, hol, hkl, hoF, rfl, rfl⟩
    have hml : (o.map A2).length = o.length := List.length_map _
    have hmk : (k.map B5).length = k.length := List.length_map _
    have htl := T0 fr o
    refine Ad ?_
    refine Aa [] [0, 9, 13, 14, 15, 16, 17, 59] ?_
    refine A6 (p := 0 < (c.length : Int)) (by kernel_rfl) (fun c2 => ?_) (fun c2 => ?_)
    · skip
      have hcne : ¬ c = [] := by intro q; subst q; simp at c2
      refine Ai ?_
      refine A1 ?_
      refine Ah [] [0, 9, 13, 14, 15, 16, 17, 18, 19] [] hk0 v0 (cc 1 (p := (0 ≤ (0 : Int) ∧ 0 < c.length)) (by first | omega | (simp; omega) | (simp; done) | (intros; simp_all; omega) | (intros; simp_all; done)) <| c0) ?_
      refine Dt (fun y => ∃ (v : Int), v = Eu Ab st (Ar fr o) c ∧ y = ⟨[(0, (.fp (Bo st))), (9, (Ac 3 A2 ((Aj Ab st fr tw).1))), (13, (.ptr 2 0)), (14, (.own 3)), (15, (.fn 67 [] [(.ptr 2 0), (.ptr 1 0)])), (16, (.fn 68 [] [(.ptr 1 0), (.fp (.agg [(.fp (A3 st))]))])), (17, (Af c)), (18, (.int .i64 (v)))], [(1, (.row [(Af (Ar fr o))] 26)), (2, (.row [(.own 4)] 53)), (3, (.grow (k.map B5) 79 7)), (4, (.grow (o.map A2) 66 3))], 5⟩) [0, 9, 13, 14, 15, 16, 17, 18] 5 (by omega) ?_ ?_
      · skip
        refine Aa [] [0, 9, 13, 14, 15, 16, 17, 18, 19, 63, 64, 65] ?_
        refine A1 ?_
        refine Bv (fun g y => ∃ (i : Nat) (bv : Int) (hf : Bool), i ≤ c.length ∧ bv ∈ c ∧ Ev Ab st (Ar fr o) (c.drop i) bv hf = Eu Ab st (Ar fr o) c ∧ y = ⟨[(0, (.fp (Bo st))), (9, (Ac 3 A2 ((Aj Ab st fr tw).1))), (13, (.ptr 2 0)), (14, (.own 3)), (15, (.fn 67 [] [(.ptr 2 0), (.ptr 1 0)])), (16, (.fn 68 [] [(.ptr 1 0), (.fp (.agg [(.fp (A3 st))]))])), (17, (Af c)), (18, (.int .i64 (bv))), (19, (.bool (hf))), (63, (Af c)), (64, (.int .i64 ((c.length : Int)))), (65, (.int .i64 ((i : Int))))], [(1, (.row [(Af (Ar fr o))] 26)), (2, (.row [(.own 4)] 53)), (3, (.grow (k.map B5) 79 7)), (4, (.grow (o.map A2) 66 3))], 5⟩ ∧ g = c.length - i) [0, 9, 13, 14, 15, 16, 17, 18, 19, 63, 64, 65] 5 _ (by omega) ⟨0, (nth c 0), false, (by omega), (by exact Mw (by omega)), (by rfl), (by kernel_rfl), rfl⟩ ?_
        rintro g2 y2 ⟨i, bv, hf, hil, hbc, hnf, rfl, rfl⟩
        refine Aa [] [0, 9, 13, 14, 15, 16, 17, 18, 19, 63, 64, 65, 66] ?_
        refine Ad ?_
        refine A6 (p := (i : Int) < (c.length : Int)) (by kernel_rfl) (fun c3 => ?_) (fun c3 => ?_)
        · skip
          have hni := hci _ (Mw (l := c) (i := i) (by omega))
          refine Ai ?_
          refine Ad ?_
          refine A1 ?_
          refine Ah [] [0, 9, 13, 14, 15, 16, 17, 18, 19, 21, 63, 64, 65] [] hk0 v0 (cc 0 (p := (0 ≤ (i : Int) ∧ i < c.length)) (by first | omega | (simp; omega) | (simp; done) | (intros; simp_all; omega) | (intros; simp_all; done)) <| c0) ?_
          refine Ah [] [0, 9, 13, 14, 15, 16, 17, 18, 19, 21, 22, 63, 64, 65] [(9, 22)] (hk 2 (al := [(.fp (Bo st)), (.int .i64 (nth c i))]) Kd ((Kn st (nth c i).toNat (by omega) (hi.2 _ (by omega))).of_args (ImpL.cons Imp.refl (ImpL.cons (Imp.of_eq (congrArg (AV.int .i64) (Pa (by omega)))) ImpL.nil))) <| hk0) v0 c0 ?_
          refine Ad ?_
          refine Ad ?_
          refine Ap ?_
          refine Bq 4 0 [] [0, 9, 13, 14, 15, 16, 17, 18, 19, 21, 22, 63, 64, 65, 76, 77, 79] [] hk0 v0 c0 ?_
          refine Hf [1] (f := 68) (cap := [(.ptr 1 0), (.fp (.agg [(.fp (A3 st))]))]) (al := [(.int .i64 (nth c i)), (Ac 5 Al (((nth st.all ((nth c i).toNat)).1).pre))]) (al' := [(.int .i64 (nth c i)), (Ac 5 Al (((nth st.all ((nth c i).toNat)).1).pre)), (.ptr 0 0), (.fp (.agg [(.fp (A3 st))]))]) (r := (Ac 5 Al (A7 Ab st (Ar fr o) (nth c i) (Bu st (nth c i))))) (r' := (Ac 5 Al (A7 Ab st (Ar fr o) (nth c i) (Bu st (nth c i))))) (s' := [(0, (.fp (Bo st))), (9, (Ac 3 A2 ((Aj Ab st fr tw).1))), (13, (.ptr 2 0)), (14, (.own 3)), (15, (.fn 67 [] [(.ptr 2 0), (.ptr 1 0)])), (16, (.fn 68 [] [(.ptr 1 0), (.fp (.agg [(.fp (A3 st))]))])), (17, (Af c)), (18, (.int .i64 (bv))), (19, (.bool (hf))), (21, (.int .i64 (nth c i))), (22, (.fp (As ((nth st.all ((nth c i).toNat)).1)))), (63, (Af c)), (64, (.int .i64 ((c.length : Int)))), (65, (.int .i64 ((i : Int)))), (76, (.fn 68 [] [(.ptr 1 0), (.fp (.agg [(.fp (A3 st))]))])), (77, (.int .i64 (nth c i))), (79, (Ac 5 Al (((nth st.all ((nth c i).toNat)).1).pre))), (80, (Ac 5 Al (A7 Ab st (Ar fr o) (nth c i) (Bu st (nth c i)))))]) (H := [(0, (.row [(Af (Ar fr o))] 26))]) (H' := [(0, (.row [(Af (Ar fr o))] 26))]) (h2 := [(1, (.row [(Af (Ar fr o))] 26)), (2, (.row [(.own 4)] 53)), (3, (.grow (k.map B5) 79 7)), (4, (.grow (o.map A2) 66 3))]) (by kernel_rfl) (by kernel_rfl) (by exact Pn) (by kernel_rfl) (by kernel_rfl) (by kernel_rfl) (by kernel_rfl) (by kernel_rfl) (O7 st hi (Ar fr o) (by omega) (nth c i) (Bu st (nth c i)) (Mq hi hni).1 (Mq hi hni).2) (by kernel_rfl) (by kernel_rfl) (by kernel_rfl) ?_
          refine Av 5 [] [0, 9, 13, 14, 15, 16, 17, 18, 19, 21, 22, 63, 64, 65, 82] [] hk0 v0 c0 ?_
          refine A6 (p := 0 < ((A7 Ab st (Ar fr o) (nth c i) (Bu st (nth c i))).length : Int)) (by kernel_rfl) (fun c4 => ?_) (fun c4 => ?_)
          · skip
            refine Br ?_
            refine Ap ?_
            refine Av 0 [] [0, 9, 13, 14, 15, 16, 17, 18, 19, 63, 64, 65] [] hk0 v0 (cc 0 (p := (-9223372036854775808 ≤ (i : Int) + 1 ∧ (i : Int) + 1 ≤ 9223372036854775807)) (by first | omega | (simp; omega) | (simp; done) | (intros; simp_all; omega) | (intros; simp_all; done)) <| c0) ?_
            refine ⟨by kernel_rfl, _, ?_, i + 1, bv, hf, ?_, ?_, ?_, (by kernel_rfl), rfl⟩
            · omega
            · omega
            · assumption
            · rw [← hnf]; exact (Q67 (by omega) (by omega)).symm
          · skip
            refine Ai ?_
            refine Ad ?_
            refine Ad ?_
            refine Ap ?_
            refine Bq 4 0 [] [0, 9, 13, 14, 15, 16, 17, 18, 19, 21, 63, 64, 65, 83, 84, 86] [] hk0 v0 c0 ?_
            refine Hf [1] (f := 68) (cap := [(.ptr 1 0), (.fp (.agg [(.fp (A3 st))]))]) (al := [(.int .i64 (nth c i)), (Ac 5 Al (((nth st.all ((nth c i).toNat)).1).requires))]) (al' := [(.int .i64 (nth c i)), (Ac 5 Al (((nth st.all ((nth c i).toNat)).1).requires)), (.ptr 0 0), (.fp (.agg [(.fp (A3 st))]))]) (r := (Ac 5 Al (A7 Ab st (Ar fr o) (nth c i) (B2 st (nth c i))))) (r' := (Ac 5 Al (A7 Ab st (Ar fr o) (nth c i) (B2 st (nth c i))))) (s' := [(0, (.fp (Bo st))), (9, (Ac 3 A2 ((Aj Ab st fr tw).1))), (13, (.ptr 2 0)), (14, (.own 3)), (15, (.fn 67 [] [(.ptr 2 0), (.ptr 1 0)])), (16, (.fn 68 [] [(.ptr 1 0), (.fp (.agg [(.fp (A3 st))]))])), (17, (Af c)), (18, (.int .i64 (bv))), (19, (.bool (hf))), (21, (.int .i64 (nth c i))), (63, (Af c)), (64, (.int .i64 ((c.length : Int)))), (65, (.int .i64 ((i : Int)))), (83, (.fn 68 [] [(.ptr 1 0), (.fp (.agg [(.fp (A3 st))]))])), (84, (.int .i64 (nth c i))), (86, (Ac 5 Al (((nth st.all ((nth c i).toNat)).1).requires))), (87, (Ac 5 Al (A7 Ab st (Ar fr o) (nth c i) (B2 st (nth c i)))))]) (H := [(0, (.row [(Af (Ar fr o))] 26))]) (H' := [(0, (.row [(Af (Ar fr o))] 26))]) (h2 := [(1, (.row [(Af (Ar fr o))] 26)), (2, (.row [(.own 4)] 53)), (3, (.grow (k.map B5) 79 7)), (4, (.grow (o.map A2) 66 3))]) (by kernel_rfl) (by kernel_rfl) (by exact Pn) (by kernel_rfl) (by kernel_rfl) (by kernel_rfl) (by kernel_rfl) (by kernel_rfl) (O7 st hi (Ar fr o) (by omega) (nth c i) (B2 st (nth c i)) (Mn hi hni).1 (Mn hi hni).2) (by kernel_rfl) (by kernel_rfl) (by kernel_rfl) ?_
            refine Av 5 [] [0, 9, 13, 14, 15, 16, 17, 18, 19, 21, 63, 64, 65, 89] [] hk0 v0 c0 ?_
            refine A6 (p := ((A7 Ab st (Ar fr o) (nth c i) (B2 st (nth c i))).length : Int) = 0) (by kernel_rfl) (fun c5 => ?_) (fun c5 => ?_)
            · skip
              refine Aa [] [0, 9, 13, 14, 15, 16, 17, 18] ?_
              refine Br ?_
              refine ⟨by kernel_rfl, (nth c i), ?_, (by kernel_rfl)⟩
              first | (rw [← hnf]; exact (Xu (by omega)).symm) | (rw [← hnf]; exact (Xr (by omega) (by omega) (by omega)).symm)
            · skip
              refine Ai ?_
              refine Aa [] [0, 9, 13, 14, 15, 16, 17, 18, 19, 21, 63, 64, 65, 92] ?_
              refine Bd (q := !hf) (by kernel_rfl) (fun c6 => ?_) (fun c6 => ?_)
              · try simp only [Ao] at c6
                refine Ap ?_
                refine Fv [] [0, 9, 13, 14, 15, 16, 17, 18, 19, 63, 64, 65] ?_
                refine Ap ?_
                refine Av 0 [] [0, 9, 13, 14, 15, 16, 17, 18, 19, 63, 64, 65] [] hk0 v0 (cc 0 (p := (-9223372036854775808 ≤ (i : Int) + 1 ∧ (i : Int) + 1 ≤ 9223372036854775807)) (by first | omega | (simp; omega) | (simp; done) | (intros; simp_all; omega) | (intros; simp_all; done)) <| c0) ?_
                refine ⟨by kernel_rfl, _, ?_, i + 1, (nth c i), true, ?_, ?_, ?_, (by kernel_rfl), rfl⟩
                · omega
                · omega
                · exact Mw (by omega)
                · rw [← hnf, Xt (i := i) (bv := bv) (hf := hf) (by omega) (by omega) (by omega), c6]; rfl
              · try simp only [Ao] at c6
                refine Ai ?_
                refine Ap ?_
                refine Av 0 [] [0, 9, 13, 14, 15, 16, 17, 18, 19, 63, 64, 65] [] hk0 v0 (cc 0 (p := (-9223372036854775808 ≤ (i : Int) + 1 ∧ (i : Int) + 1 ≤ 9223372036854775807)) (by first | omega | (simp; omega) | (simp; done) | (intros; simp_all; omega) | (intros; simp_all; done)) <| c0) ?_
                refine ⟨by kernel_rfl, _, ?_, i + 1, bv, hf, ?_, ?_, ?_, (by kernel_rfl), rfl⟩
                · omega
                · omega
                · assumption
                · rw [← hnf, Xt (i := i) (bv := bv) (hf := hf) (by omega) (by omega) (by omega), c6]; rfl
        · skip
          refine Br ?_
          refine ⟨by kernel_rfl, bv, ?_, (by kernel_rfl)⟩
          first | (rw [← hnf]; exact (Xu (by omega)).symm) | (rw [← hnf]; exact (Xr (by omega) (by omega) (by omega)).symm)
      · rintro y1 ⟨v, hv, rfl⟩
        have hvc : v ∈ c := by rw [hv]; exact R1 hcne
        have hvi := hci v hvc
        have hn1 := (Mq hi hvi).1
        have hn2 := (Mn hi hvi).1
        have hl1 := Yk Ab st (Ar fr o) v (Bu st v)
        have hl2 := Yk Ab st (Ar fr o) v (B2 st v)
        refine Ah [] [0, 9, 13, 14, 15, 16, 17, 18, 25] [(9, 25)] (hk 2 (al := [(.fp (Bo st)), (.int .i64 (v))]) Kd ((Kn st v.toNat (by omega) (hi.2 _ (by omega))).of_args (ImpL.cons Imp.refl (ImpL.cons (Imp.of_eq (congrArg (AV.int .i64) (Pa (by omega)))) ImpL.nil))) <| hk0) v0 c0 ?_
        refine Ad ?_
        refine Ad ?_
        refine Ap ?_
        refine Bq 4 0 [] [0, 9, 13, 14, 15, 16, 17, 18, 25, 102, 103, 105] [] hk0 v0 c0 ?_
        refine Hf [1] (f := 68) (cap := [(.ptr 1 0), (.fp (.agg [(.fp (A3 st))]))]) (al := [(.int .i64 (v)), (Ac 5 Al (((nth st.all (v.toNat)).1).pre))]) (al' := [(.int .i64 (v)), (Ac 5 Al (((nth st.all (v.toNat)).1).pre)), (.ptr 0 0), (.fp (.agg [(.fp (A3 st))]))]) (r := (Ac 5 Al (A7 Ab st (Ar fr o) v (Bu st v)))) (r' := (Ac 5 Al (A7 Ab st (Ar fr o) v (Bu st v)))) (s' := [(0, (.fp (Bo st))), (9, (Ac 3 A2 ((Aj Ab st fr tw).1))), (13, (.ptr 2 0)), (14, (.own 3)), (15, (.fn 67 [] [(.ptr 2 0), (.ptr 1 0)])), (16, (.fn 68 [] [(.ptr 1 0), (.fp (.agg [(.fp (A3 st))]))])), (17, (Af c)), (18, (.int .i64 (v))), (25, (.fp (As ((nth st.all (v.toNat)).1)))), (102, (.fn 68 [] [(.ptr 1 0), (.fp (.agg [(.fp (A3 st))]))])), (103, (.int .i64 (v))), (105, (Ac 5 Al (((nth st.all (v.toNat)).1).pre))), (106, (Ac 5 Al (A7 Ab st (Ar fr o) v (Bu st v))))]) (H := [(0, (.row [(Af (Ar fr o))] 26))]) (H' := [(0, (.row [(Af (Ar fr o))] 26))]) (h2 := [(1, (.row [(Af (Ar fr o))] 26)), (2, (.row [(.own 4)] 53)), (3, (.grow (k.map B5) 79 7)), (4, (.grow (o.map A2) 66 3))]) (by kernel_rfl) (by kernel_rfl) (by exact Pn) (by kernel_rfl) (by kernel_rfl) (by kernel_rfl) (by kernel_rfl) (by kernel_rfl) (O7 st hi (Ar fr o) (by omega) v (Bu st v) (Mq hi hvi).1 (Mq hi hvi).2) (by kernel_rfl) (by kernel_rfl) (by kernel_rfl) ?_
        refine Av 5 [] [0, 9, 13, 14, 15, 16, 17, 18, 25, 106, 107, 108] [] hk0 v0 c0 ?_
        refine A1 ?_
        refine Bv (fun g y => ∃ (i3 : Nat), i3 ≤ (A7 Ab st (Ar fr o) v (Bu st v)).length ∧ y = ⟨[(0, (.fp (Bo st))), (9, (Ac 3 A2 ((Aj Ab st fr tw).1))), (13, (.ptr 2 0)), (14, (.own 3)), (15, (.fn 67 [] [(.ptr 2 0), (.ptr 1 0)])), (16, (.fn 68 [] [(.ptr 1 0), (.fp (.agg [(.fp (A3 st))]))])), (17, (Af c)), (18, (.int .i64 (v))), (25, (.fp (As ((nth st.all (v.toNat)).1)))), (106, (Ac 5 Al (A7 Ab st (Ar fr o) v (Bu st v)))), (107, (.int .i64 (((A7 Ab st (Ar fr o) v (Bu st v)).length : Int)))), (108, (.int .i64 ((i3 : Int))))], [(1, (.row [(Af (Ar fr o))] 26)), (2, (.row [(.own 4)] 53)), (3, (.grow ((k ++ ((A7 Ab st (Ar fr o) v (Bu st v)).take i3).map (fun d => ((o.length : Int), true, d))).map B5) 79 7)), (4, (.grow (o.map A2) 66 3))], 6⟩ ∧ g = (A7 Ab st (Ar fr o) v (Bu st v)).length - i3) [0, 9, 13, 14, 15, 16, 17, 18, 25, 106, 107, 108] 6 _ (by omega) ⟨0, (by omega), (Eq.trans (b := (⟨[(0, (.fp (Bo st))), (9, (Ac 3 A2 ((Aj Ab st fr tw).1))), (13, (.ptr 2 0)), (14, (.own 3)), (15, (.fn 67 [] [(.ptr 2 0), (.ptr 1 0)])), (16, (.fn 68 [] [(.ptr 1 0), (.fp (.agg [(.fp (A3 st))]))])), (17, (Af c)), (18, (.int .i64 (v))), (25, (.fp (As ((nth st.all (v.toNat)).1)))), (106, (Ac 5 Al (A7 Ab st (Ar fr o) v (Bu st v)))), (107, (.int .i64 (((A7 Ab st (Ar fr o) v (Bu st v)).length : Int)))), (108, (.int .i64 (0)))], [(1, (.row [(Af (Ar fr o))] 26)), (2, (.row [(.own 4)] 53)), (3, (.grow (k.map B5) 79 7)), (4, (.grow (o.map A2) 66 3))], 6⟩ : St)) (by kernel_rfl) (by rw [show (k ++ ((A7 Ab st (Ar fr o) v (Bu st v)).take 0).map (fun d => ((o.length : Int), true, d))).map B5 = k.map B5 from by rw [List.take_zero, List.map_nil, List.append_nil]] <;> kernel_rfl)), rfl⟩ ?_
        rintro g3 y3 ⟨i3, f3_1, rfl, rfl⟩
        refine Aa [] [0, 9, 13, 14, 15, 16, 17, 18, 25, 106, 107, 108, 109] ?_
        refine Ad ?_
        refine A6 (p := (i3 : Int) < ((A7 Ab st (Ar fr o) v (Bu st v)).length : Int)) (by kernel_rfl) (fun c7 => ?_) (fun c7 => ?_)
        · skip
          refine Ai ?_
          refine Ad ?_
          refine A1 ?_
          refine Ah [] [0, 9, 13, 14, 15, 16, 17, 18, 25, 29, 106, 107, 108] [] hk0 v0 (cc 0 (p := (0 ≤ (i3 : Int) ∧ i3 < (A7 Ab st (Ar fr o) v (Bu st v)).length)) (by first | omega | (simp; omega) | (simp; done) | (intros; simp_all; omega) | (intros; simp_all; done)) <| c0) ?_
          refine Ap ?_
          refine Av 0 [] [0, 9, 13, 14, 15, 16, 17, 18, 25, 106, 107, 108] [(0, 29)] hk0 v0 (cc 6 (p := ((((k ++ ((A7 Ab st (Ar fr o) v (Bu st v)).take i3).map (fun d => ((o.length : Int), true, d))).map B5).length + 1) * 88 ≤ 140737488355328)) (by first | omega | (simp; omega) | (simp; done) | (intros; simp_all; omega) | (intros; simp_all; done)) <| c0) ?_
          refine Ap ?_
          refine Av 0 [] [0, 9, 13, 14, 15, 16, 17, 18, 25, 106, 107, 108] [] hk0 v0 (cc 0 (p := (-9223372036854775808 ≤ (i3 : Int) + 1 ∧ (i3 : Int) + 1 ≤ 9223372036854775807)) (by first | omega | (simp; omega) | (simp; done) | (intros; simp_all; omega) | (intros; simp_all; done)) <| c0) ?_
          refine ⟨by kernel_rfl, _, ?_, i3 + 1, ?_, (Eq.trans (b := (⟨[(0, (.fp (Bo st))), (9, (Ac 3 A2 ((Aj Ab st fr tw).1))), (13, (.ptr 2 0)), (14, (.own 3)), (15, (.fn 67 [] [(.ptr 2 0), (.ptr 1 0)])), (16, (.fn 68 [] [(.ptr 1 0), (.fp (.agg [(.fp (A3 st))]))])), (17, (Af c)), (18, (.int .i64 (v))), (25, (.fp (As ((nth st.all (v.toNat)).1)))), (106, (Ac 5 Al (A7 Ab st (Ar fr o) v (Bu st v)))), (107, (.int .i64 (((A7 Ab st (Ar fr o) v (Bu st v)).length : Int)))), (108, (.int .i64 ((i3 : Int) + 1)))], [(1, (.row [(Af (Ar fr o))] 26)), (2, (.row [(.own 4)] 53)), (3, (.grow (((k ++ ((A7 Ab st (Ar fr o) v (Bu st v)).take i3).map (fun d => ((o.length : Int), true, d))).map B5) ++ ([(.agg [(.int .i64 (((o.map A2).length : Int))), (.bool (true)), (.int .i64 ((nth (A7 Ab st (Ar fr o) v (Bu st v)) i3).kind)), (.str ((nth (A7 Ab st (Ar fr o) v (Bu st v)) i3).name)), (.int .i64 ((nth (A7 Ab st (Ar fr o) v (Bu st v)) i3).op)), (.str ((nth (A7 Ab st (Ar fr o) v (Bu st v)) i3).evr)), (.row 5 (nth (A7 Ab st (Ar fr o) v (Bu st v)) i3).args.length (depAt (nth (A7 Ab st (Ar fr o) v (Bu st v)) i3).args))])] : List AV)) 79 7)), (4, (.grow (o.map A2) 66 3))], 6⟩ : St)) (by kernel_rfl) (by rw [Q1l (k := k) (l := (A7 Ab st (Ar fr o) v (Bu st v))) (n := (o.length : Int)) (p := true) (i := i3) (by omega), hml] <;> kernel_rfl)), rfl⟩
          · omega
          · omega
        · skip
          refine Br ?_
          refine Ad ?_
          refine Ad ?_
          refine Ap ?_
          refine Bq 4 0 [] [0, 9, 13, 14, 15, 16, 17, 18, 120, 121, 123] [] hk0 v0 c0 ?_
          refine Hf [1] (f := 68) (cap := [(.ptr 1 0), (.fp (.agg [(.fp (A3 st))]))]) (al := [(.int .i64 (v)), (Ac 5 Al (((nth st.all (v.toNat)).1).requires))]) (al' := [(.int .i64 (v)), (Ac 5 Al (((nth st.all (v.toNat)).1).requires)), (.ptr 0 0), (.fp (.agg [(.fp (A3 st))]))]) (r := (Ac 5 Al (A7 Ab st (Ar fr o) v (B2 st v)))) (r' := (Ac 5 Al (A7 Ab st (Ar fr o) v (B2 st v)))) (s' := [(0, (.fp (Bo st))), (9, (Ac 3 A2 ((Aj Ab st fr tw).1))), (13, (.ptr 2 0)), (14, (.own 3)), (15, (.fn 67 [] [(.ptr 2 0), (.ptr 1 0)])), (16, (.fn 68 [] [(.ptr 1 0), (.fp (.agg [(.fp (A3 st))]))])), (17, (Af c)), (18, (.int .i64 (v))), (120, (.fn 68 [] [(.ptr 1 0), (.fp (.agg [(.fp (A3 st))]))])), (121, (.int .i64 (v))), (123, (Ac 5 Al (((nth st.all (v.toNat)).1).requires))), (124, (Ac 5 Al (A7 Ab st (Ar fr o) v (B2 st v))))]) (H := [(0, (.row [(Af (Ar fr o))] 26))]) (H' := [(0, (.row [(Af (Ar fr o))] 26))]) (h2 := [(1, (.row [(Af (Ar fr o))] 26)), (2, (.row [(.own 4)] 53)), (3, (.grow ((k ++ ((A7 Ab st (Ar fr o) v (Bu st v)).take i3).map (fun d => ((o.length : Int), true, d))).map B5) 79 7)), (4, (.grow (o.map A2) 66 3))]) (by kernel_rfl) (by kernel_rfl) (by exact Pn) (by kernel_rfl) (by kernel_rfl) (by kernel_rfl) (by kernel_rfl) (by kernel_rfl) (O7 st hi (Ar fr o) (by omega) v (B2 st v) (Mn hi hvi).1 (Mn hi hvi).2) (by kernel_rfl) (by kernel_rfl) (by kernel_rfl) ?_
          refine Av 5 [] [0, 9, 13, 14, 15, 16, 17, 18, 124, 125, 126] [] hk0 v0 c0 ?_
          refine A1 ?_
          refine Bv (fun g y => ∃ (i4 : Nat), i4 ≤ (A7 Ab st (Ar fr o) v (B2 st v)).length ∧ y = ⟨[(0, (.fp (Bo st))), (9, (Ac 3 A2 ((Aj Ab st fr tw).1))), (13, (.ptr 2 0)), (14, (.own 3)), (15, (.fn 67 [] [(.ptr 2 0), (.ptr 1 0)])), (16, (.fn 68 [] [(.ptr 1 0), (.fp (.agg [(.fp (A3 st))]))])), (17, (Af c)), (18, (.int .i64 (v))), (124, (Ac 5 Al (A7 Ab st (Ar fr o) v (B2 st v)))), (125, (.int .i64 (((A7 Ab st (Ar fr o) v (B2 st v)).length : Int)))), (126, (.int .i64 ((i4 : Int))))], [(1, (.row [(Af (Ar fr o))] 26)), (2, (.row [(.own 4)] 53)), (3, (.grow (((k ++ (A7 Ab st (Ar fr o) v (Bu st v)).map (fun d => ((o.length : Int), true, d))) ++ ((A7 Ab st (Ar fr o) v (B2 st v)).take i4).map (fun d => ((o.length : Int), false, d))).map B5) 79 7)), (4, (.grow (o.map A2) 66 3))], 6⟩ ∧ g = (A7 Ab st (Ar fr o) v (B2 st v)).length - i4) [0, 9, 13, 14, 15, 16, 17, 18, 124, 125, 126] 6 _ (by omega) ⟨0, (by omega), (Eq.trans (b := (⟨[(0, (.fp (Bo st))), (9, (Ac 3 A2 ((Aj Ab st fr tw).1))), (13, (.ptr 2 0)), (14, (.own 3)), (15, (.fn 67 [] [(.ptr 2 0), (.ptr 1 0)])), (16, (.fn 68 [] [(.ptr 1 0), (.fp (.agg [(.fp (A3 st))]))])), (17, (Af c)), (18, (.int .i64 (v))), (124, (Ac 5 Al (A7 Ab st (Ar fr o) v (B2 st v)))), (125, (.int .i64 (((A7 Ab st (Ar fr o) v (B2 st v)).length : Int)))), (126, (.int .i64 (0)))], [(1, (.row [(Af (Ar fr o))] 26)), (2, (.row [(.own 4)] 53)), (3, (.grow ((k ++ ((A7 Ab st (Ar fr o) v (Bu st v)).take i3).map (fun d => ((o.length : Int), true, d))).map B5) 79 7)), (4, (.grow (o.map A2) 66 3))], 6⟩ : St)) (by kernel_rfl) (by rw [X2j (k := k) (l := (A7 Ab st (Ar fr o) v (Bu st v))) (l2 := (A7 Ab st (Ar fr o) v (B2 st v))) (n := (o.length : Int)) (i := i3) (by omega)] <;> kernel_rfl)), rfl⟩ ?_
          rintro g4 y4 ⟨i4, f4_1, rfl, rfl⟩
          refine Aa [] [0, 9, 13, 14, 15, 16, 17, 18, 124, 125, 126, 127] ?_
          refine Ad ?_
          refine A6 (p := (i4 : Int) < ((A7 Ab st (Ar fr o) v (B2 st v)).length : Int)) (by kernel_rfl) (fun c8 => ?_) (fun c8 => ?_)
          · skip
            refine Ai ?_
            refine Ad ?_
            refine A1 ?_
            refine Ah [] [0, 9, 13, 14, 15, 16, 17, 18, 31, 124, 125, 126] [] hk0 v0 (cc 0 (p := (0 ≤ (i4 : Int) ∧ i4 < (A7 Ab st (Ar fr o) v (B2 st v)).length)) (by first | omega | (simp; omega) | (simp; done) | (intros; simp_all; omega) | (intros; simp_all; done)) <| c0) ?_
            refine Ap ?_
            refine Av 0 [] [0, 9, 13, 14, 15, 16, 17, 18, 124, 125, 126] [(0, 31)] hk0 v0 (cc 6 (p := (((((k ++ (A7 Ab st (Ar fr o) v (Bu st v)).map (fun d => ((o.length : Int), true, d))) ++ ((A7 Ab st (Ar fr o) v (B2 st v)).take i4).map (fun d => ((o.length : Int), false, d))).map B5).length + 1) * 88 ≤ 140737488355328)) (by first | omega | (simp; omega) | (simp; done) | (intros; simp_all; omega) | (intros; simp_all; done)) <| c0) ?_
            refine Ap ?_
            refine Av 0 [] [0, 9, 13, 14, 15, 16, 17, 18, 124, 125, 126] [] hk0 v0 (cc 0 (p := (-9223372036854775808 ≤ (i4 : Int) + 1 ∧ (i4 : Int) + 1 ≤ 9223372036854775807)) (by first | omega | (simp; omega) | (simp; done) | (intros; simp_all; omega) | (intros; simp_all; done)) <| c0) ?_
            refine ⟨by kernel_rfl, _, ?_, i4 + 1, ?_, (Eq.trans (b := (⟨[(0, (.fp (Bo st))), (9, (Ac 3 A2 ((Aj Ab st fr tw).1))), (13, (.ptr 2 0)), (14, (.own 3)), (15, (.fn 67 [] [(.ptr 2 0), (.ptr 1 0)])), (16, (.fn 68 [] [(.ptr 1 0), (.fp (.agg [(.fp (A3 st))]))])), (17, (Af c)), (18, (.int .i64 (v))), (124, (Ac 5 Al (A7 Ab st (Ar fr o) v (B2 st v)))), (125, (.int .i64 (((A7 Ab st (Ar fr o) v (B2 st v)).length : Int)))), (126, (.int .i64 ((i4 : Int) + 1)))], [(1, (.row [(Af (Ar fr o))] 26)), (2, (.row [(.own 4)] 53)), (3, (.grow ((((k ++ (A7 Ab st (Ar fr o) v (Bu st v)).map (fun d => ((o.length : Int), true, d))) ++ ((A7 Ab st (Ar fr o) v (B2 st v)).take i4).map (fun d => ((o.length : Int), false, d))).map B5) ++ ([(.agg [(.int .i64 (((o.map A2).length : Int))), (.bool (false)), (.int .i64 ((nth (A7 Ab st (Ar fr o) v (B2 st v)) i4).kind)), (.str ((nth (A7 Ab st (Ar fr o) v (B2 st v)) i4).name)), (.int .i64 ((nth (A7 Ab st (Ar fr o) v (B2 st v)) i4).op)), (.str ((nth (A7 Ab st (Ar fr o) v (B2 st v)) i4).evr)), (.row 5 (nth (A7 Ab st (Ar fr o) v (B2 st v)) i4).args.length (depAt (nth (A7 Ab st (Ar fr o) v (B2 st v)) i4).args))])] : List AV)) 79 7)), (4, (.grow (o.map A2) 66 3))], 6⟩ : St)) (by kernel_rfl) (by rw [Q1l (k := k ++ (A7 Ab st (Ar fr o) v (Bu st v)).map (fun d => ((o.length : Int), true, d))) (l := (A7 Ab st (Ar fr o) v (B2 st v))) (n := (o.length : Int)) (p := false) (i := i4) (by omega), hml] <;> kernel_rfl)), rfl⟩
            · omega
            · omega
          · skip
            refine Br ?_
            refine Ah [] [0, 9, 13, 14, 15, 16, 17, 18] [(3, 140)] (hk 3 Ng (M7 c [v] (by omega) (by first | omega | simp)) <| hk0) (vk 3 140 (b := (Af [v])) (Imp.list (f := AV.int .i64) rfl) <| v0) c0 ?_
            refine Ad ?_
            refine Aa [] [0, 9, 13, 14, 15, 16, 17, 18, 142, 143, 144] ?_
            refine A1 ?_
            refine Bv (fun g y => ∃ (i5 : Nat), i5 ≤ (Aj Ab st fr tw).1.length ∧ y = ⟨[(0, (.fp (Bo st))), (9, (Ac 3 A2 ((Aj Ab st fr tw).1))), (13, (.ptr 2 0)), (14, (.own 3)), (15, (.fn 67 [] [(.ptr 2 0), (.ptr 1 0)])), (16, (.fn 68 [] [(.ptr 1 0), (.fp (.agg [(.fp (A3 st))]))])), (17, (Af (Ae c [v]))), (18, (.int .i64 (v))), (142, (Ac 3 A2 ((Aj Ab st fr tw).1))), (143, (.int .i64 ((((Aj Ab st fr tw).1).length : Int)))), (144, (.int .i64 ((i5 : Int))))], [(1, (.row [(Af (Ar fr (o ++ ((Aj Ab st fr tw).1.take i5).filter (ofB v))))] 26)), (2, (.row [(.own 4)] 53)), (3, (.grow (((k ++ (A7 Ab st (Ar fr o) v (Bu st v)).map (fun d => ((o.length : Int), true, d))) ++ ((A7 Ab st (Ar fr o) v (B2 st v)).take i4).map (fun d => ((o.length : Int), false, d))).map B5) 79 7)), (4, (.grow ((o ++ ((Aj Ab st fr tw).1.take i5).filter (ofB v)).map A2) 66 3))], 7⟩ ∧ g = (Aj Ab st fr tw).1.length - i5) [0, 9, 13, 14, 15, 16, 17, 18, 142, 143, 144] 7 _ (by omega) ⟨0, (by omega), (Eq.trans (b := (⟨[(0, (.fp (Bo st))), (9, (Ac 3 A2 ((Aj Ab st fr tw).1))), (13, (.ptr 2 0)), (14, (.own 3)), (15, (.fn 67 [] [(.ptr 2 0), (.ptr 1 0)])), (16, (.fn 68 [] [(.ptr 1 0), (.fp (.agg [(.fp (A3 st))]))])), (17, (Af (Ae c [v]))), (18, (.int .i64 (v))), (142, (Ac 3 A2 ((Aj Ab st fr tw).1))), (143, (.int .i64 ((((Aj Ab st fr tw).1).length : Int)))), (144, (.int .i64 (0)))], [(1, (.row [(Af (Ar fr o))] 26)), (2, (.row [(.own 4)] 53)), (3, (.grow (((k ++ (A7 Ab st (Ar fr o) v (Bu st v)).map (fun d => ((o.length : Int), true, d))) ++ ((A7 Ab st (Ar fr o) v (B2 st v)).take i4).map (fun d => ((o.length : Int), false, d))).map B5) 79 7)), (4, (.grow (o.map A2) 66 3))], 7⟩ : St)) (by kernel_rfl) (by rw [show o ++ ((Aj Ab st fr tw).1.take 0).filter (ofB v) = o from by rw [List.take_zero, List.filter_nil, List.append_nil]] <;> kernel_rfl)), rfl⟩ ?_
            rintro g5 y5 ⟨i5, f5_1, rfl, rfl⟩
            refine Aa [] [0, 9, 13, 14, 15, 16, 17, 18, 142, 143, 144, 145] ?_
            refine Ad ?_
            refine A6 (p := (i5 : Int) < (((Aj Ab st fr tw).1).length : Int)) (by kernel_rfl) (fun c9 => ?_) (fun c9 => ?_)
            · skip
              refine Ai ?_
              refine Ad ?_
              refine A1 ?_
              refine Ah [] [0, 9, 13, 14, 15, 16, 17, 18, 33, 142, 143, 144] [] hk0 v0 (cc 0 (p := (0 ≤ (i5 : Int) ∧ i5 < ((Aj Ab st fr tw).1).length)) (by first | omega | (simp; omega) | (simp; done) | (intros; simp_all; omega) | (intros; simp_all; done)) <| c0) ?_
              refine Ah [] [0, 9, 13, 14, 15, 16, 17, 18, 33, 142, 143, 144, 151] [(0, 33)] hk0 v0 c0 ?_
              refine A6 (p := ((nth ((Aj Ab st fr tw).1) i5).2.1) = v) (by kernel_rfl) (fun c10 => ?_) (fun c10 => ?_)
              · skip
                refine Ap ?_
                refine Bq 2 0 [] [0, 9, 13, 14, 15, 16, 17, 18, 142, 143, 144, 152, 153] [] hk0 v0 c0 ?_
                refine Hf [2, 1, 4] (f := 67) (cap := [(.ptr 2 0), (.ptr 1 0)]) (al := [(.agg [(.int .i64 ((nth ((Aj Ab st fr tw).1) i5).1)), (.int .i64 ((nth ((Aj Ab st fr tw).1) i5).2.1)), (.int .i64 ((nth ((Aj Ab st fr tw).1) i5).2.2))])]) (al' := [(.agg [(.int .i64 ((nth ((Aj Ab st fr tw).1) i5).1)), (.int .i64 ((nth ((Aj Ab st fr tw).1) i5).2.1)), (.int .i64 ((nth ((Aj Ab st fr tw).1) i5).2.2))]), (.ptr 0 0), (.ptr 1 0)]) (r := (.tup [])) (r' := (.tup [])) (s' := [(0, (.fp (Bo st))), (9, (Ac 3 A2 ((Aj Ab st fr tw).1))), (13, (.ptr 2 0)), (14, (.own 3)), (15, (.fn 67 [] [(.ptr 2 0), (.ptr 1 0)])), (16, (.fn 68 [] [(.ptr 1 0), (.fp (.agg [(.fp (A3 st))]))])), (17, (Af (Ae c [v]))), (18, (.int .i64 (v))), (142, (Ac 3 A2 ((Aj Ab st fr tw).1))), (143, (.int .i64 ((((Aj Ab st fr tw).1).length : Int)))), (144, (.int .i64 ((i5 : Int)))), (152, (.fn 67 [] [(.ptr 2 0), (.ptr 1 0)])), (153, (.agg [(.int .i64 ((nth ((Aj Ab st fr tw).1) i5).1)), (.int .i64 ((nth ((Aj Ab st fr tw).1) i5).2.1)), (.int .i64 ((nth ((Aj Ab st fr tw).1) i5).2.2))])), (154, (.tup []))]) (H := [(0, (.row [(.own 2)] 53)), (1, (.row [(Af (Ar fr (o ++ ((Aj Ab st fr tw).1.take i5).filter (ofB v))))] 26)), (2, (.grow ((o ++ ((Aj Ab st fr tw).1.take i5).filter (ofB v)).map A2) 66 3))]) (H' := [(0, (.row [(.own 2)] 53)), (1, (.row [(Af (Ar fr ((o ++ ((Aj Ab st fr tw).1.take i5).filter (ofB v)) ++ [(nth ((Aj Ab st fr tw).1) i5)])))] 26)), (2, (.grow (((o ++ ((Aj Ab st fr tw).1.take i5).filter (ofB v)) ++ [(nth ((Aj Ab st fr tw).1) i5)]).map A2) 66 3))]) (h2 := [(1, (.row [(Af (Ar fr ((o ++ ((Aj Ab st fr tw).1.take i5).filter (ofB v)) ++ [(nth ((Aj Ab st fr tw).1) i5)])))] 26)), (2, (.row [(.own 4)] 53)), (3, (.grow (((k ++ (A7 Ab st (Ar fr o) v (Bu st v)).map (fun d => ((o.length : Int), true, d))) ++ ((A7 Ab st (Ar fr o) v (B2 st v)).take i4).map (fun d => ((o.length : Int), false, d))).map B5) 79 7)), (4, (.grow (((o ++ ((Aj Ab st fr tw).1.take i5).filter (ofB v)) ++ [(nth ((Aj Ab st fr tw).1) i5)]).map A2) 66 3))]) (by kernel_rfl) (by kernel_rfl) (by exact S4) (by kernel_rfl) (by kernel_rfl) (by kernel_rfl) (by kernel_rfl) (by kernel_rfl) (Te fr (o ++ ((Aj Ab st fr tw).1.take i5).filter (ofB v)) (nth ((Aj Ab st fr tw).1) i5) (by have := T1 o (Aj Ab st fr tw).1 i5 (ofB v); omega) ha) (by kernel_rfl) (by kernel_rfl) (by kernel_rfl) ?_
                refine Bx ?_
                refine Ap ?_
                refine Av 0 [] [0, 9, 13, 14, 15, 16, 17, 18, 142, 143, 144] [] hk0 v0 (cc 0 (p := (-9223372036854775808 ≤ (i5 : Int) + 1 ∧ (i5 : Int) + 1 ≤ 9223372036854775807)) (by first | omega | (simp; omega) | (simp; done) | (intros; simp_all; omega) | (intros; simp_all; done)) <| c0) ?_
                refine ⟨by kernel_rfl, _, ?_, i5 + 1, ?_, (Eq.trans (b := (⟨[(0, (.fp (Bo st))), (9, (Ac 3 A2 ((Aj Ab st fr tw).1))), (13, (.ptr 2 0)), (14, (.own 3)), (15, (.fn 67 [] [(.ptr 2 0), (.ptr 1 0)])), (16, (.fn 68 [] [(.ptr 1 0), (.fp (.agg [(.fp (A3 st))]))])), (17, (Af (Ae c [v]))), (18, (.int .i64 (v))), (142, (Ac 3 A2 ((Aj Ab st fr tw).1))), (143, (.int .i64 ((((Aj Ab st fr tw).1).length : Int)))), (144, (.int .i64 ((i5 : Int) + 1)))], [(1, (.row [(Af (Ar fr ((o ++ ((Aj Ab st fr tw).1.take i5).filter (ofB v)) ++ [(nth ((Aj Ab st fr tw).1) i5)])))] 26)), (2, (.row [(.own 4)] 53)), (3, (.grow (((k ++ (A7 Ab st (Ar fr o) v (Bu st v)).map (fun d => ((o.length : Int), true, d))) ++ ((A7 Ab st (Ar fr o) v (B2 st v)).take i4).map (fun d => ((o.length : Int), false, d))).map B5) 79 7)), (4, (.grow (((o ++ ((Aj Ab st fr tw).1.take i5).filter (ofB v)) ++ [(nth ((Aj Ab st fr tw).1) i5)]).map A2) 66 3))], 7⟩ : St)) (by kernel_rfl) (by rw [Sq (o := o) (q := (Aj Ab st fr tw).1) (p := ofB v) (i := i5) (by omega) (decide_eq_true (by assumption))] <;> kernel_rfl)), rfl⟩
                · omega
                · omega
              · skip
                refine Ai ?_
                refine Ap ?_
                refine Av 0 [] [0, 9, 13, 14, 15, 16, 17, 18, 142, 143, 144] [] hk0 v0 (cc 0 (p := (-9223372036854775808 ≤ (i5 : Int) + 1 ∧ (i5 : Int) + 1 ≤ 9223372036854775807)) (by first | omega | (simp; omega) | (simp; done) | (intros; simp_all; omega) | (intros; simp_all; done)) <| c0) ?_
                refine ⟨by kernel_rfl, _, ?_, i5 + 1, ?_, (Eq.trans (b := (⟨[(0, (.fp (Bo st))), (9, (Ac 3 A2 ((Aj Ab st fr tw).1))), (13, (.ptr 2 0)), (14, (.own 3)), (15, (.fn 67 [] [(.ptr 2 0), (.ptr 1 0)])), (16, (.fn 68 [] [(.ptr 1 0), (.fp (.agg [(.fp (A3 st))]))])), (17, (Af (Ae c [v]))), (18, (.int .i64 (v))), (142, (Ac 3 A2 ((Aj Ab st fr tw).1))), (143, (.int .i64 ((((Aj Ab st fr tw).1).length : Int)))), (144, (.int .i64 ((i5 : Int) + 1)))], [(1, (.row [(Af (Ar fr (o ++ ((Aj Ab st fr tw).1.take i5).filter (ofB v))))] 26)), (2, (.row [(.own 4)] 53)), (3, (.grow (((k ++ (A7 Ab st (Ar fr o) v (Bu st v)).map (fun d => ((o.length : Int), true, d))) ++ ((A7 Ab st (Ar fr o) v (B2 st v)).take i4).map (fun d => ((o.length : Int), false, d))).map B5) 79 7)), (4, (.grow ((o ++ ((Aj Ab st fr tw).1.take i5).filter (ofB v)).map A2) 66 3))], 7⟩ : St)) (by kernel_rfl) (by rw [Sr (o := o) (q := (Aj Ab st fr tw).1) (p := ofB v) (i := i5) (by omega) (decide_eq_false (by assumption))] <;> kernel_rfl)), rfl⟩
                · omega
                · omega
            · skip
              refine Br ?_
              refine Ad ?_
              refine Aa [] [0, 9, 13, 14, 15, 16, 17, 18, 156, 157, 158] ?_
              refine A1 ?_
              refine Bv (fun g y => ∃ (i6 : Nat), i6 ≤ (Aj Ab st fr tw).1.length ∧ y = ⟨[(0, (.fp (Bo st))), (9, (Ac 3 A2 ((Aj Ab st fr tw).1))), (13, (.ptr 2 0)), (14, (.own 3)), (15, (.fn 67 [] [(.ptr 2 0), (.ptr 1 0)])), (16, (.fn 68 [] [(.ptr 1 0), (.fp (.agg [(.fp (A3 st))]))])), (17, (Af (Ae c [v]))), (18, (.int .i64 (v))), (156, (Ac 3 A2 ((Aj Ab st fr tw).1))), (157, (.int .i64 ((((Aj Ab st fr tw).1).length : Int)))), (158, (.int .i64 ((i6 : Int))))], [(1, (.row [(Af (Ar fr ((o ++ (Aj Ab st fr tw).1.filter (ofB v)) ++ ((Aj Ab st fr tw).1.take i6).filter (C6 v))))] 26)), (2, (.row [(.own 4)] 53)), (3, (.grow (((k ++ (A7 Ab st (Ar fr o) v (Bu st v)).map (fun d => ((o.length : Int), true, d))) ++ ((A7 Ab st (Ar fr o) v (B2 st v)).take i4).map (fun d => ((o.length : Int), false, d))).map B5) 79 7)), (4, (.grow (((o ++ (Aj Ab st fr tw).1.filter (ofB v)) ++ ((Aj Ab st fr tw).1.take i6).filter (C6 v)).map A2) 66 3))], 7⟩ ∧ g = (Aj Ab st fr tw).1.length - i6) [0, 9, 13, 14, 15, 16, 17, 18, 156, 157, 158] 7 _ (by omega) ⟨0, (by omega), (Eq.trans (b := (⟨[(0, (.fp (Bo st))), (9, (Ac 3 A2 ((Aj Ab st fr tw).1))), (13, (.ptr 2 0)), (14, (.own 3)), (15, (.fn 67 [] [(.ptr 2 0), (.ptr 1 0)])), (16, (.fn 68 [] [(.ptr 1 0), (.fp (.agg [(.fp (A3 st))]))])), (17, (Af (Ae c [v]))), (18, (.int .i64 (v))), (156, (Ac 3 A2 ((Aj Ab st fr tw).1))), (157, (.int .i64 ((((Aj Ab st fr tw).1).length : Int)))), (158, (.int .i64 (0)))], [(1, (.row [(Af (Ar fr (o ++ ((Aj Ab st fr tw).1.take i5).filter (ofB v))))] 26)), (2, (.row [(.own 4)] 53)), (3, (.grow (((k ++ (A7 Ab st (Ar fr o) v (Bu st v)).map (fun d => ((o.length : Int), true, d))) ++ ((A7 Ab st (Ar fr o) v (B2 st v)).take i4).map (fun d => ((o.length : Int), false, d))).map B5) 79 7)), (4, (.grow ((o ++ ((Aj Ab st fr tw).1.take i5).filter (ofB v)).map A2) 66 3))], 7⟩ : St)) (by kernel_rfl) (by rw [Q9f (o := o) (q := (Aj Ab st fr tw).1) (p := ofB v) (r := C6 v) (i := i5) (by omega)] <;> kernel_rfl)), rfl⟩ ?_
              rintro g6 y6 ⟨i6, f6_1, rfl, rfl⟩
              refine Aa [] [0, 9, 13, 14, 15, 16, 17, 18, 156, 157, 158, 159] ?_
              refine Ad ?_
              refine A6 (p := (i6 : Int) < (((Aj Ab st fr tw).1).length : Int)) (by kernel_rfl) (fun c11 => ?_) (fun c11 => ?_)
              · skip
                refine Ai ?_
                refine Ad ?_
                refine A1 ?_
                refine Ah [] [0, 9, 13, 14, 15, 16, 17, 18, 35, 156, 157, 158] [] hk0 v0 (cc 0 (p := (0 ≤ (i6 : Int) ∧ i6 < ((Aj Ab st fr tw).1).length)) (by first | omega | (simp; omega) | (simp; done) | (intros; simp_all; omega) | (intros; simp_all; done)) <| c0) ?_
                obtain ⟨b1, hb1⟩ : ∃ b, b = (decide (((nth ((Aj Ab st fr tw).1) i6).1) = 6)) := ⟨_, rfl⟩
                obtain ⟨b2, hb2⟩ : ∃ b, b = (b1 || (decide (((nth ((Aj Ab st fr tw).1) i6).1) = 7))) := ⟨_, rfl⟩
                refine Ah (CS := [(5, ((!b1) = true → (!b1) = true)), (6, ((!b1) = true → (!b1) = true)), (7, (b1 = false → (!b1) = true)), (10, (b2 = true → b2 = true)), (12, (b2 = true → b2 = true ∧ b2 = true)), (13, (b2 = true → b2 = true))]) [166, 167, 168, 171, 172, 173, 174] [0, 9, 13, 14, 15, 16, 17, 18, 35, 156, 157, 158, 175] [(0, 35)] hk0 (vk 4 165 (a := .bool (decide (((nth ((Aj Ab st fr tw).1) i6).1) = 6))) (b := .bool b1) (Imp.of_eq (by rw [hb1])) <| vk 8 169 (a := .bool (b1 || (decide (((nth ((Aj Ab st fr tw).1) i6).1) = 7)))) (b := .bool b2) (Imp.of_eq (by rw [hb2])) <| v0) (by refine cc _ ?_ <| cc _ ?_ <| cc _ ?_ <| cc _ ?_ <| cc _ ?_ <| cc _ ?_ c0 <;> first | omega | (simp; omega) | (simp; done) | (intros; simp_all; omega) | (intros; simp_all; done)) ?_
                refine Bd (q := b2 && (decide (((nth ((Aj Ab st fr tw).1) i6).2.2) = v))) (by kernel_rfl) (fun c12 => ?_) (fun c12 => ?_)
                · skip
                  subst hb2 hb1
                  try simp only [Ao] at c12
                  refine Ap ?_
                  refine Bq 2 0 [] [0, 9, 13, 14, 15, 16, 17, 18, 156, 157, 158, 176, 177] [] hk0 v0 c0 ?_
                  refine Hf [2, 1, 4] (f := 67) (cap := [(.ptr 2 0), (.ptr 1 0)]) (al := [(.agg [(.int .i64 ((nth ((Aj Ab st fr tw).1) i6).1)), (.int .i64 ((nth ((Aj Ab st fr tw).1) i6).2.1)), (.int .i64 ((nth ((Aj Ab st fr tw).1) i6).2.2))])]) (al' := [(.agg [(.int .i64 ((nth ((Aj Ab st fr tw).1) i6).1)), (.int .i64 ((nth ((Aj Ab st fr tw).1) i6).2.1)), (.int .i64 ((nth ((Aj Ab st fr tw).1) i6).2.2))]), (.ptr 0 0), (.ptr 1 0)]) (r := (.tup [])) (r' := (.tup [])) (s' := [(0, (.fp (Bo st))), (9, (Ac 3 A2 ((Aj Ab st fr tw).1))), (13, (.ptr 2 0)), (14, (.own 3)), (15, (.fn 67 [] [(.ptr 2 0), (.ptr 1 0)])), (16, (.fn 68 [] [(.ptr 1 0), (.fp (.agg [(.fp (A3 st))]))])), (17, (Af (Ae c [v]))), (18, (.int .i64 (v))), (156, (Ac 3 A2 ((Aj Ab st fr tw).1))), (157, (.int .i64 ((((Aj Ab st fr tw).1).length : Int)))), (158, (.int .i64 ((i6 : Int)))), (176, (.fn 67 [] [(.ptr 2 0), (.ptr 1 0)])), (177, (.agg [(.int .i64 ((nth ((Aj Ab st fr tw).1) i6).1)), (.int .i64 ((nth ((Aj Ab st fr tw).1) i6).2.1)), (.int .i64 ((nth ((Aj Ab st fr tw).1) i6).2.2))])), (178, (.tup []))]) (H := [(0, (.row [(.own 2)] 53)), (1, (.row [(Af (Ar fr ((o ++ (Aj Ab st fr tw).1.filter (ofB v)) ++ ((Aj Ab st fr tw).1.take i6).filter (C6 v))))] 26)), (2, (.grow (((o ++ (Aj Ab st fr tw).1.filter (ofB v)) ++ ((Aj Ab st fr tw).1.take i6).filter (C6 v)).map A2) 66 3))]) (H' := [(0, (.row [(.own 2)] 53)), (1, (.row [(Af (Ar fr (((o ++ (Aj Ab st fr tw).1.filter (ofB v)) ++ ((Aj Ab st fr tw).1.take i6).filter (C6 v)) ++ [(nth ((Aj Ab st fr tw).1) i6)])))] 26)), (2, (.grow ((((o ++ (Aj Ab st fr tw).1.filter (ofB v)) ++ ((Aj Ab st fr tw).1.take i6).filter (C6 v)) ++ [(nth ((Aj Ab st fr tw).1) i6)]).map A2) 66 3))]) (h2 := [(1, (.row [(Af (Ar fr (((o ++ (Aj Ab st fr tw).1.filter (ofB v)) ++ ((Aj Ab st fr tw).1.take i6).filter (C6 v)) ++ [(nth ((Aj Ab st fr tw).1) i6)])))] 26)), (2, (.row [(.own 4)] 53)), (3, (.grow (((k ++ (A7 Ab st (Ar fr o) v (Bu st v)).map (fun d => ((o.length : Int), true, d))) ++ ((A7 Ab st (Ar fr o) v (B2 st v)).take i4).map (fun d => ((o.length : Int), false, d))).map B5) 79 7)), (4, (.grow ((((o ++ (Aj Ab st fr tw).1.filter (ofB v)) ++ ((Aj Ab st fr tw).1.take i6).filter (C6 v)) ++ [(nth ((Aj Ab st fr tw).1) i6)]).map A2) 66 3))]) (by kernel_rfl) (by kernel_rfl) (by exact S4) (by kernel_rfl) (by kernel_rfl) (by kernel_rfl) (by kernel_rfl) (by kernel_rfl) (Te fr ((o ++ (Aj Ab st fr tw).1.filter (ofB v)) ++ ((Aj Ab st fr tw).1.take i6).filter (C6 v)) (nth ((Aj Ab st fr tw).1) i6) (by have := T1 (o ++ (Aj Ab st fr tw).1.filter (ofB v)) (Aj Ab st fr tw).1 i6 (C6 v); have := X25 o (Aj Ab st fr tw).1 (ofB v); omega) ha) (by kernel_rfl) (by kernel_rfl) (by kernel_rfl) ?_
                  refine Bx ?_
                  refine Ap ?_
                  refine Av 0 [] [0, 9, 13, 14, 15, 16, 17, 18, 156, 157, 158] [] hk0 v0 (cc 0 (p := (-9223372036854775808 ≤ (i6 : Int) + 1 ∧ (i6 : Int) + 1 ≤ 9223372036854775807)) (by first | omega | (simp; omega) | (simp; done) | (intros; simp_all; omega) | (intros; simp_all; done)) <| c0) ?_
                  refine ⟨by kernel_rfl, _, ?_, i6 + 1, ?_, (Eq.trans (b := (⟨[(0, (.fp (Bo st))), (9, (Ac 3 A2 ((Aj Ab st fr tw).1))), (13, (.ptr 2 0)), (14, (.own 3)), (15, (.fn 67 [] [(.ptr 2 0), (.ptr 1 0)])), (16, (.fn 68 [] [(.ptr 1 0), (.fp (.agg [(.fp (A3 st))]))])), (17, (Af (Ae c [v]))), (18, (.int .i64 (v))), (156, (Ac 3 A2 ((Aj Ab st fr tw).1))), (157, (.int .i64 ((((Aj Ab st fr tw).1).length : Int)))), (158, (.int .i64 ((i6 : Int) + 1)))], [(1, (.row [(Af (Ar fr (((o ++ (Aj Ab st fr tw).1.filter (ofB v)) ++ ((Aj Ab st fr tw).1.take i6).filter (C6 v)) ++ [(nth ((Aj Ab st fr tw).1) i6)])))] 26)), (2, (.row [(.own 4)] 53)), (3, (.grow (((k ++ (A7 Ab st (Ar fr o) v (Bu st v)).map (fun d => ((o.length : Int), true, d))) ++ ((A7 Ab st (Ar fr o) v (B2 st v)).take i4).map (fun d => ((o.length : Int), false, d))).map B5) 79 7)), (4, (.grow ((((o ++ (Aj Ab st fr tw).1.filter (ofB v)) ++ ((Aj Ab st fr tw).1.take i6).filter (C6 v)) ++ [(nth ((Aj Ab st fr tw).1) i6)]).map A2) 66 3))], 7⟩ : St)) (by kernel_rfl) (by rw [Sq (o := (o ++ (Aj Ab st fr tw).1.filter (ofB v))) (q := (Aj Ab st fr tw).1) (p := C6 v) (i := i6) (by omega) (by unfold C6; simpa using c12)] <;> kernel_rfl)), rfl⟩
                  · omega
                  · omega
                · skip
                  subst hb2 hb1
                  try simp only [Ao] at c12
                  refine Ai ?_
                  refine Ap ?_
                  refine Av 0 [] [0, 9, 13, 14, 15, 16, 17, 18, 156, 157, 158] [] hk0 v0 (cc 0 (p := (-9223372036854775808 ≤ (i6 : Int) + 1 ∧ (i6 : Int) + 1 ≤ 9223372036854775807)) (by first | omega | (simp; omega) | (simp; done) | (intros; simp_all; omega) | (intros; simp_all; done)) <| c0) ?_
                  refine ⟨by kernel_rfl, _, ?_, i6 + 1, ?_, (Eq.trans (b := (⟨[(0, (.fp (Bo st))), (9, (Ac 3 A2 ((Aj Ab st fr tw).1))), (13, (.ptr 2 0)), (14, (.own 3)), (15, (.fn 67 [] [(.ptr 2 0), (.ptr 1 0)])), (16, (.fn 68 [] [(.ptr 1 0), (.fp (.agg [(.fp (A3 st))]))])), (17, (Af (Ae c [v]))), (18, (.int .i64 (v))), (156, (Ac 3 A2 ((Aj Ab st fr tw).1))), (157, (.int .i64 ((((Aj Ab st fr tw).1).length : Int)))), (158, (.int .i64 ((i6 : Int) + 1)))], [(1, (.row [(Af (Ar fr ((o ++ (Aj Ab st fr tw).1.filter (ofB v)) ++ ((Aj Ab st fr tw).1.take i6).filter (C6 v))))] 26)), (2, (.row [(.own 4)] 53)), (3, (.grow (((k ++ (A7 Ab st (Ar fr o) v (Bu st v)).map (fun d => ((o.length : Int), true, d))) ++ ((A7 Ab st (Ar fr o) v (B2 st v)).take i4).map (fun d => ((o.length : Int), false, d))).map B5) 79 7)), (4, (.grow (((o ++ (Aj Ab st fr tw).1.filter (ofB v)) ++ ((Aj Ab st fr tw).1.take i6).filter (C6 v)).map A2) 66 3))], 7⟩ : St)) (by kernel_rfl) (by rw [Sr (o := (o ++ (Aj Ab st fr tw).1.filter (ofB v))) (q := (Aj Ab st fr tw).1) (p := C6 v) (i := i6) (by omega) (by unfold C6; rw [Bool.eq_false_iff]; intro q; simp only [Bool.and_eq_true, Bool.or_eq_true, decide_eq_true_eq] at q; omega)] <;> kernel_rfl)), rfl⟩
                  · omega
                  · omega
              · skip
                refine Br ?_
                refine Br ?_
                refine ⟨by kernel_rfl, _, ?_, n - 1, (Ae c [Eu Ab st (Ar fr o) c]), (o ++ Ex (Aj Ab st fr tw).1 (Eu Ab st (Ar fr o) c)), (k ++ Ij Ab st (Ar fr o) (Eu Ab st (Ar fr o) c) (o.length : Int)), ?_, ?_, ?_, ?_, ?_, ?_, (Eq.trans (b := (⟨[(0, (.fp (Bo st))), (9, (Ac 3 A2 ((Aj Ab st fr tw).1))), (13, (.ptr 2 0)), (14, (.own 3)), (15, (.fn 67 [] [(.ptr 2 0), (.ptr 1 0)])), (16, (.fn 68 [] [(.ptr 1 0), (.fp (.agg [(.fp (A3 st))]))])), (17, (Af (Ae c [v])))], [(1, (.row [(Af (Ar fr ((o ++ (Aj Ab st fr tw).1.filter (ofB v)) ++ ((Aj Ab st fr tw).1.take i6).filter (C6 v))))] 26)), (2, (.row [(.own 4)] 53)), (3, (.grow (((k ++ (A7 Ab st (Ar fr o) v (Bu st v)).map (fun d => ((o.length : Int), true, d))) ++ ((A7 Ab st (Ar fr o) v (B2 st v)).take i4).map (fun d => ((o.length : Int), false, d))).map B5) 79 7)), (4, (.grow (((o ++ (Aj Ab st fr tw).1.filter (ofB v)) ++ ((Aj Ab st fr tw).1.take i6).filter (C6 v)).map A2) 66 3))], 5⟩ : St)) (by kernel_rfl) (by rw [← hv, Q6i (o := o) (q := (Aj Ab st fr tw).1) (v := v) (i := i6) (by omega), X2k (k := k) (m := Ab) (st := st) (th := Ar fr o) (v := v) (p := (o.length : Int)) (i := i4) (by omega)] <;> kernel_rfl)), rfl⟩
                all_goals skip
                · have := My (b := v) hvc; rw [← hv]; omega
                · have := My (b := v) hvc; rw [← hv]; omega
                · exact I4 _ _
                · exact fun x hx => hci x (minusZ_mem.1 hx).1
                · have h1 := My (b := v) hvc; have h2 := X1r (Aj Ab st fr tw).1 v; rw [← hv, List.length_append]; omega
                · have h1 := My (b := v) hvc; rw [← hv, List.length_append]; unfold Ij; rw [List.length_append, List.length_map, List.length_map]; omega
                · rw [← Ow hcne hcn]; exact hoF
    · skip
      refine Br ?_
      refine Ad ?_
      refine Aa [] [13, 14, 15, 180, 181, 182] ?_
      refine A1 ?_
      refine Bv (fun g y => ∃ (i7 : Nat), i7 ≤ (Aj Ab st fr tw).1.length ∧ y = ⟨[(13, (.ptr 2 0)), (14, (.own 3)), (15, (.fn 67 [] [(.ptr 2 0), (.ptr 1 0)])), (180, (Ac 3 A2 ((Aj Ab st fr tw).1))), (181, (.int .i64 ((((Aj Ab st fr tw).1).length : Int)))), (182, (.int .i64 ((i7 : Int))))], [(1, (.row [(Af (Ar fr (o ++ ((Aj Ab st fr tw).1.take i7).filter De)))] 26)), (2, (.row [(.own 4)] 53)), (3, (.grow (k.map B5) 79 7)), (4, (.grow ((o ++ ((Aj Ab st fr tw).1.take i7).filter De).map A2) 66 3))], 5⟩ ∧ g = (Aj Ab st fr tw).1.length - i7) [13, 14, 15, 180, 181, 182] 5 _ (by omega) ⟨0, (by omega), (Eq.trans (b := (⟨[(13, (.ptr 2 0)), (14, (.own 3)), (15, (.fn 67 [] [(.ptr 2 0), (.ptr 1 0)])), (180, (Ac 3 A2 ((Aj Ab st fr tw).1))), (181, (.int .i64 ((((Aj Ab st fr tw).1).length : Int)))), (182, (.int .i64 (0)))], [(1, (.row [(Af (Ar fr o))] 26)), (2, (.row [(.own 4)] 53)), (3, (.grow (k.map B5) 79 7)), (4, (.grow (o.map A2) 66 3))], 5⟩ : St)) (by kernel_rfl) (by rw [show o ++ ((Aj Ab st fr tw).1.take 0).filter (De) = o from by rw [List.take_zero, List.filter_nil, List.append_nil]] <;> kernel_rfl)), rfl⟩ ?_
      rintro g7 y7 ⟨i7, f7_1, rfl, rfl⟩
      refine Aa [] [13, 14, 15, 180, 181, 182, 183] ?_
      refine Ad ?_
      refine A6 (p := (i7 : Int) < (((Aj Ab st fr tw).1).length : Int)) (by kernel_rfl) (fun c13 => ?_) (fun c13 => ?_)
      · skip
        refine Ai ?_
        refine Ad ?_
        refine A1 ?_
        refine Ah [] [13, 14, 15, 37, 180, 181, 182] [] hk0 v0 (cc 0 (p := (0 ≤ (i7 : Int) ∧ i7 < ((Aj Ab st fr tw).1).length)) (by first | omega | (simp; omega) | (simp; done) | (intros; simp_all; omega) | (intros; simp_all; done)) <| c0) ?_
        refine Ah [] [13, 14, 15, 37, 180, 181, 182, 188] [(0, 37)] hk0 v0 c0 ?_
        refine A6 (p := ((nth ((Aj Ab st fr tw).1) i7).1) = 2) (by kernel_rfl) (fun c14 => ?_) (fun c14 => ?_)
        · skip
          refine Ap ?_
          refine Bq 2 0 [] [13, 14, 15, 180, 181, 182, 189, 190] [] hk0 v0 c0 ?_
          refine Hf [2, 1, 4] (f := 67) (cap := [(.ptr 2 0), (.ptr 1 0)]) (al := [(.agg [(.int .i64 ((nth ((Aj Ab st fr tw).1) i7).1)), (.int .i64 ((nth ((Aj Ab st fr tw).1) i7).2.1)), (.int .i64 ((nth ((Aj Ab st fr tw).1) i7).2.2))])]) (al' := [(.agg [(.int .i64 ((nth ((Aj Ab st fr tw).1) i7).1)), (.int .i64 ((nth ((Aj Ab st fr tw).1) i7).2.1)), (.int .i64 ((nth ((Aj Ab st fr tw).1) i7).2.2))]), (.ptr 0 0), (.ptr 1 0)]) (r := (.tup [])) (r' := (.tup [])) (s' := [(13, (.ptr 2 0)), (14, (.own 3)), (15, (.fn 67 [] [(.ptr 2 0), (.ptr 1 0)])), (180, (Ac 3 A2 ((Aj Ab st fr tw).1))), (181, (.int .i64 ((((Aj Ab st fr tw).1).length : Int)))), (182, (.int .i64 ((i7 : Int)))), (189, (.fn 67 [] [(.ptr 2 0), (.ptr 1 0)])), (190, (.agg [(.int .i64 ((nth ((Aj Ab st fr tw).1) i7).1)), (.int .i64 ((nth ((Aj Ab st fr tw).1) i7).2.1)), (.int .i64 ((nth ((Aj Ab st fr tw).1) i7).2.2))])), (191, (.tup []))]) (H := [(0, (.row [(.own 2)] 53)), (1, (.row [(Af (Ar fr (o ++ ((Aj Ab st fr tw).1.take i7).filter De)))] 26)), (2, (.grow ((o ++ ((Aj Ab st fr tw).1.take i7).filter De).map A2) 66 3))]) (H' := [(0, (.row [(.own 2)] 53)), (1, (.row [(Af (Ar fr ((o ++ ((Aj Ab st fr tw).1.take i7).filter De) ++ [(nth ((Aj Ab st fr tw).1) i7)])))] 26)), (2, (.grow (((o ++ ((Aj Ab st fr tw).1.take i7).filter De) ++ [(nth ((Aj Ab st fr tw).1) i7)]).map A2) 66 3))]) (h2 := [(1, (.row [(Af (Ar fr ((o ++ ((Aj Ab st fr tw).1.take i7).filter De) ++ [(nth ((Aj Ab st fr tw).1) i7)])))] 26)), (2, (.row [(.own 4)] 53)), (3, (.grow (k.map B5) 79 7)), (4, (.grow (((o ++ ((Aj Ab st fr tw).1.take i7).filter De) ++ [(nth ((Aj Ab st fr tw).1) i7)]).map A2) 66 3))]) (by kernel_rfl) (by kernel_rfl) (by exact S4) (by kernel_rfl) (by kernel_rfl) (by kernel_rfl) (by kernel_rfl) (by kernel_rfl) (Te fr (o ++ ((Aj Ab st fr tw).1.take i7).filter De) (nth ((Aj Ab st fr tw).1) i7) (by have := T1 o (Aj Ab st fr tw).1 i7 De; omega) ha) (by kernel_rfl) (by kernel_rfl) (by kernel_rfl) ?_
          refine Bx ?_
          refine Ap ?_
          refine Av 0 [] [13, 14, 15, 180, 181, 182] [] hk0 v0 (cc 0 (p := (-9223372036854775808 ≤ (i7 : Int) + 1 ∧ (i7 : Int) + 1 ≤ 9223372036854775807)) (by first | omega | (simp; omega) | (simp; done) | (intros; simp_all; omega) | (intros; simp_all; done)) <| c0) ?_
          refine ⟨by kernel_rfl, _, ?_, i7 + 1, ?_, (Eq.trans (b := (⟨[(13, (.ptr 2 0)), (14, (.own 3)), (15, (.fn 67 [] [(.ptr 2 0), (.ptr 1 0)])), (180, (Ac 3 A2 ((Aj Ab st fr tw).1))), (181, (.int .i64 ((((Aj Ab st fr tw).1).length : Int)))), (182, (.int .i64 ((i7 : Int) + 1)))], [(1, (.row [(Af (Ar fr ((o ++ ((Aj Ab st fr tw).1.take i7).filter De) ++ [(nth ((Aj Ab st fr tw).1) i7)])))] 26)), (2, (.row [(.own 4)] 53)), (3, (.grow (k.map B5) 79 7)), (4, (.grow (((o ++ ((Aj Ab st fr tw).1.take i7).filter De) ++ [(nth ((Aj Ab st fr tw).1) i7)]).map A2) 66 3))], 5⟩ : St)) (by kernel_rfl) (by rw [Sq (o := o) (q := (Aj Ab st fr tw).1) (p := De) (i := i7) (by omega) (decide_eq_true (by assumption))] <;> kernel_rfl)), rfl⟩
          · omega
          · omega
        · skip
          refine Ai ?_
          refine Ap ?_
          refine Av 0 [] [13, 14, 15, 180, 181, 182] [] hk0 v0 (cc 0 (p := (-9223372036854775808 ≤ (i7 : Int) + 1 ∧ (i7 : Int) + 1 ≤ 9223372036854775807)) (by first | omega | (simp; omega) | (simp; done) | (intros; simp_all; omega) | (intros; simp_all; done)) <| c0) ?_
          refine ⟨by kernel_rfl, _, ?_, i7 + 1, ?_, (Eq.trans (b := (⟨[(13, (.ptr 2 0)), (14, (.own 3)), (15, (.fn 67 [] [(.ptr 2 0), (.ptr 1 0)])), (180, (Ac 3 A2 ((Aj Ab st fr tw).1))), (181, (.int .i64 ((((Aj Ab st fr tw).1).length : Int)))), (182, (.int .i64 ((i7 : Int) + 1)))], [(1, (.row [(Af (Ar fr (o ++ ((Aj Ab st fr tw).1.take i7).filter De)))] 26)), (2, (.row [(.own 4)] 53)), (3, (.grow (k.map B5) 79 7)), (4, (.grow ((o ++ ((Aj Ab st fr tw).1.take i7).filter De).map A2) 66 3))], 5⟩ : St)) (by kernel_rfl) (by rw [Sr (o := o) (q := (Aj Ab st fr tw).1) (p := De) (i := i7) (by omega) (decide_eq_false (by assumption))] <;> kernel_rfl)), rfl⟩
          · omega
          · omega
      · skip
        refine Br ?_
        refine Aa [] [6, 7, 8] ?_
        refine Ag ?_
        refine RK wR [(.row 3 ((o ++ ((Aj Ab st fr tw).1.take i7).filter De).map A2).length (fun ix => ((o ++ ((Aj Ab st fr tw).1.take i7).filter De).map A2).getD ix Bm)), (.row 7 (k.map B5).length (fun ix => (k.map B5).getD ix Bm)), (.int .i64 (0))] ?_
        obtain rfl : c = [] := List.length_eq_zero_iff.1 (by omega)
        rw [W5] at hoF
        have hR : E9 Ab st fr tw = (o ++ ((Aj Ab st fr tw).1.take i7).filter De, k, 0) := by rw [List.take_of_length_le (by omega)]; exact Q6j c1 hoF
        rw [hR]
        simp only [Ak]
        exact (Imp.tups (ImpL.cons (Imp.list (f := A2) (List.length_map _)) (ImpL.cons (Imp.list (f := B5) (List.length_map _)) (ImpL.cons Imp.refl ImpL.nil)))).same
end Sv
end Go.Proofs.YtlmloohlmlahfaaGreatDoor
end
section
namespace Go.Proofs.YtlmloohlmlahfaaGreatDoor
open Go Go.RowKit
namespace Sv
attribute [local irreducible] SW SO Bn
set_option maxHeartbeats 1000000
set_option maxRecDepth 100000
theorem Q97 : Au Tryz.prog 26 := Ay Tryz.func26 (by kernel_rfl) rfl
theorem X0b : Au Tryz.prog 22 := Ay Tryz.func22 (by kernel_rfl) rfl
theorem S1 : Au Tryz.prog 80 := Ay Tryz.func80 (by kernel_rfl) rfl
theorem X1w {a b : DepT} (h1 : a.kind = b.kind) (h2 : a.name = b.name) (h3 : a.op = b.op) (h4 : a.evr = b.evr) (h5 : a.args = b.args) : a = b := by
  cases a; cases b; simp_all [DepT.kind, DepT.name, DepT.op, DepT.evr, DepT.args]
theorem Xn {α : Type} [Inhabited α] {a b : List α} (hl : a.length = b.length) (h : ∀ j, j < a.length → nth a j = nth b j) : a = b := List.ext_getElem hl fun j h1 h2 => by
  have := h j h1
  rwa [Fk h1, Fk h2] at this
def owB : DepT := .mk 1 [98] 0 [] []
def owP : PkgT := ⟨[97], [49, 45, 49], [110, 111, 97, 114, 99, 104], [], [], [owB], [], [], [], [], [], []⟩
def owQ : PkgT := ⟨[98], [49, 45, 49], [110, 111, 97, 114, 99, 104], [], [], [], [], [], [], [], [], []⟩
def owR : RepoT := ⟨[109, 97, 105, 110], 0, false, [owP, owQ]⟩
def owS : PoolT := (An (Am 1) [owR]).1
def owA : List (Int × Int) := (An (Am 1) [owR]).2
def owX : Bk := (1, 1, -1)
def owY : Bk := (1, 0, -1)
def owK : Dn := (0, false, owB)
theorem W4 : IdxOk owS := Q1r fun i hi => by
  have : i = 0 := by simpa using hi
  subst this
  decide
theorem Q6h : FnV Tryz.prog 9 [.int .i64 1, Ac 4 Bf [owR]] (.tup [.fp (Bo owS), .fp (Jt owS owA)]) := Q3g 1 [owR] (by decide) fun i hi => by
  have : i = 0 := by simpa using hi
  subst this
  decide
theorem Q6f : owS.all.length = 2 := by kernel_rfl
theorem W3 : Ae [0, 1] [] = [0, 1] := (Mk (l := [0, 1].filter fun z => !decide (z ∈ [])) (k := [0, 1]) ⟨by simp, by simp, trivial⟩ (by simp)).symm
theorem Q6d : Aj Ab owS [] [0, 1] = ([owY, owX], 0) := by
  have h2 : Ae [] [0, 1] = [] := Q4r
  have h3 : Aw [0, 1] [] = [0, 1] := Q5 (l := [0, 1]) ⟨by simp, by simp, trivial⟩
  rw [Kx (by simp) (by rw [Q6f]; simp)]
  unfold Ek
  rw [W3, h2, h3]
  have k1 : B9 Ab owS [0, 1] [] 0 = owY := by kernel_rfl
  have k2 : B9 Ab owS [0, 1] [] 1 = owX := by kernel_rfl
  rw [List.map_cons, List.map_cons, List.map_nil, k1, k2]
theorem Q6g : E9 Ab owS [] [0, 1] = ([owX, owY], [], 0) := by
  unfold E9
  rw [Q6d, if_neg (by simp), W3]
  have e : Fa Ab owS [owY, owX] [] ([0, 1] : List Int).length [0, 1] [] [] = ([owX, owY], []) := by
    have n1 : Eu Ab owS (Ar [] []) [0, 1] = 1 := by kernel_rfl
    have m1 : Ae [0, 1] [1] = [0] := by kernel_rfl
    have d1 : ([] : List Bk) ++ Ex [owY, owX] 1 = [owX] := by kernel_rfl
    have b1 : ([] : List Dn) ++ Ij Ab owS (Ar [] []) 1 (([] : List Bk).length : Int) = [] := by kernel_rfl
    have n2 : Eu Ab owS (Ar [] [owX]) [0] = 0 := by
      have := R1 (m := Ab) (st := owS) (th := Ar [] [owX]) (c := [0]) (by simp)
      simpa using this
    have m2 : Ae [0] [0] = [] := by kernel_rfl
    have d2 : [owX] ++ Ex [owY, owX] 0 = [owX, owY] := by kernel_rfl
    have u : Aw (Ar [] [owX]) [0] = [0, 1] := by
      rw [show Ar [] [owX] = [1] from by kernel_rfl]
      exact (Mk (l := [1] ++ [0]) (k := [0, 1]) ⟨by simp, by simp, trivial⟩ (by simp; omega)).symm
    have b2 : ([] : List Dn) ++ Ij Ab owS (Ar [] [owX]) 0 (([owX] : List Bk).length : Int) = [] := by
      unfold Ij A7
      rw [u]
      kernel_rfl
    rw [Ow (by simp) (by simp), n1, m1, d1, b1, Ow (by simp) (by simp), n2, m2, d2, b2, W5]
  rw [e]
  have z : [owX, owY] ++ [owY, owX].filter De = [owX, owY] := by kernel_rfl
  exact congrArg (fun q => (q, ([] : List Dn), (0 : Int))) z
theorem Q6e : E9 Ab owS [] [0] = ([(1, 0, -1)], [owK], 0) := by kernel_rfl
theorem X2l {x y : Dn} (h1 : x.1 = y.1) (h2 : x.2.1 = y.2.1) (h3 : x.2.2 = y.2.2) : x = y := Prod.ext h1 (Prod.ext h2 h3)
theorem Lc {α : Type} [Inhabited α] {l : List α} {i : Nat} (h : i < l.length) : nth l i ∈ l := by rw [Fk h]; exact List.getElem_mem h
open Classical in
noncomputable def Nm (a b : List Dn) : Bool := decide (a = b)
open Classical in
theorem Q1m {a b : List Dn} (h : a = b) : Nm a b = true := by unfold Nm; exact decide_eq_true h
open Classical in
theorem Q1n {a b : List Dn} (h : ¬ a = b) : Nm a b = false := by unfold Nm; exact decide_eq_false h
theorem Q43 (a b : DepT) (ha : a.size ≤ 4194304) (hb : b.size ≤ 4194304) (ih : ∀ i, i < a.args.length → i < b.args.length → FnV Tryz.prog 80 [(.agg [(.int .i64 ((nth a.args i).kind)), (.str ((nth a.args i).name)), (.int .i64 ((nth a.args i).op)), (.str ((nth a.args i).evr)), (.row 5 (nth a.args i).args.length (depAt (nth a.args i).args))]), (.agg [(.int .i64 ((nth b.args i).kind)), (.str ((nth b.args i).name)), (.int .i64 ((nth b.args i).op)), (.str ((nth b.args i).evr)), (.row 5 (nth b.args i).args.length (depAt (nth b.args i).args))])] (.bool (B7 (nth a.args i) (nth b.args i)))) :
    FnV Tryz.prog 80 [(.agg [(.int .i64 (a.kind)), (.str (a.name)), (.int .i64 (a.op)), (.str (a.evr)), (.row 5 a.args.length (depAt a.args))]), (.agg [(.int .i64 (b.kind)), (.str (b.name)), (.int .i64 (b.op)), (.str (b.evr)), (.row 5 b.args.length (depAt b.args))])] (.bool ((B7 a b))) := by
  have hal := Dr a.args
  have hza := Ep a
  have hbl := Dr b.args
  have hzb := Ep b
  refine A4 [.tmp 4] Tryz.func80 rfl Tryz.ntmps80 rfl rfl (fun B F hF => ?_)
  refine Ah [] [2, 3] [(1, 2), (2, 3)] hk0 v0 c0 ?_
  refine Ad ?_
  refine Ah (CS := [(7, ((!(!decide (a.kind = b.kind))) = true → (!(!decide (a.kind = b.kind))) = true)), (9, ((!(!decide (a.kind = b.kind))) = true → (!(!decide (a.kind = b.kind))) = true)), (10, ((!(!decide (a.kind = b.kind))) = true → (!(!decide (a.kind = b.kind))) = true ∧ (!(!decide (a.kind = b.kind))) = true)), (11, ((!decide (a.kind = b.kind)) = false → (!(!decide (a.kind = b.kind))) = true)), (14, ((!((!decide (a.kind = b.kind)) || (!decide (a.name = b.name)))) = true → (!((!decide (a.kind = b.kind)) || (!decide (a.name = b.name)))) = true)), (16, ((!((!decide (a.kind = b.kind)) || (!decide (a.name = b.name)))) = true → (!((!decide (a.kind = b.kind)) || (!decide (a.name = b.name)))) = true)), (17, ((!((!decide (a.kind = b.kind)) || (!decide (a.name = b.name)))) = true → (!((!decide (a.kind = b.kind)) || (!decide (a.name = b.name)))) = true ∧ (!((!decide (a.kind = b.kind)) || (!decide (a.name = b.name)))) = true)), (18, (((!decide (a.kind = b.kind)) || (!decide (a.name = b.name))) = false → (!((!decide (a.kind = b.kind)) || (!decide (a.name = b.name)))) = true)), (21, ((!(((!decide (a.kind = b.kind)) || (!decide (a.name = b.name))) || (!decide (a.op = b.op)))) = true → (!(((!decide (a.kind = b.kind)) || (!decide (a.name = b.name))) || (!decide (a.op = b.op)))) = true)), (23, ((!(((!decide (a.kind = b.kind)) || (!decide (a.name = b.name))) || (!decide (a.op = b.op)))) = true → (!(((!decide (a.kind = b.kind)) || (!decide (a.name = b.name))) || (!decide (a.op = b.op)))) = true)), (24, ((!(((!decide (a.kind = b.kind)) || (!decide (a.name = b.name))) || (!decide (a.op = b.op)))) = true → (!(((!decide (a.kind = b.kind)) || (!decide (a.name = b.name))) || (!decide (a.op = b.op)))) = true ∧ (!(((!decide (a.kind = b.kind)) || (!decide (a.name = b.name))) || (!decide (a.op = b.op)))) = true)), (25, ((((!decide (a.kind = b.kind)) || (!decide (a.name = b.name))) || (!decide (a.op = b.op))) = false → (!(((!decide (a.kind = b.kind)) || (!decide (a.name = b.name))) || (!decide (a.op = b.op)))) = true)), (28, ((!((((!decide (a.kind = b.kind)) || (!decide (a.name = b.name))) || (!decide (a.op = b.op))) || (!decide (a.evr = b.evr)))) = true → (!((((!decide (a.kind = b.kind)) || (!decide (a.name = b.name))) || (!decide (a.op = b.op))) || (!decide (a.evr = b.evr)))) = true)), (29, ((!((((!decide (a.kind = b.kind)) || (!decide (a.name = b.name))) || (!decide (a.op = b.op))) || (!decide (a.evr = b.evr)))) = true → (!((((!decide (a.kind = b.kind)) || (!decide (a.name = b.name))) || (!decide (a.op = b.op))) || (!decide (a.evr = b.evr)))) = true)), (31, ((!((((!decide (a.kind = b.kind)) || (!decide (a.name = b.name))) || (!decide (a.op = b.op))) || (!decide (a.evr = b.evr)))) = true → (!((((!decide (a.kind = b.kind)) || (!decide (a.name = b.name))) || (!decide (a.op = b.op))) || (!decide (a.evr = b.evr)))) = true)), (32, ((!((((!decide (a.kind = b.kind)) || (!decide (a.name = b.name))) || (!decide (a.op = b.op))) || (!decide (a.evr = b.evr)))) = true → (!((((!decide (a.kind = b.kind)) || (!decide (a.name = b.name))) || (!decide (a.op = b.op))) || (!decide (a.evr = b.evr)))) = true)), (33, ((!((((!decide (a.kind = b.kind)) || (!decide (a.name = b.name))) || (!decide (a.op = b.op))) || (!decide (a.evr = b.evr)))) = true → (!((((!decide (a.kind = b.kind)) || (!decide (a.name = b.name))) || (!decide (a.op = b.op))) || (!decide (a.evr = b.evr)))) = true ∧ (!((((!decide (a.kind = b.kind)) || (!decide (a.name = b.name))) || (!decide (a.op = b.op))) || (!decide (a.evr = b.evr)))) = true)), (34, (((((!decide (a.kind = b.kind)) || (!decide (a.name = b.name))) || (!decide (a.op = b.op))) || (!decide (a.evr = b.evr))) = false → (!((((!decide (a.kind = b.kind)) || (!decide (a.name = b.name))) || (!decide (a.op = b.op))) || (!decide (a.evr = b.evr)))) = true))]) [13, 14, 15, 16, 17, 20, 21, 22, 23, 24, 27, 28, 29, 30, 31, 34, 35, 36, 37, 38, 39, 40] [2, 3, 41] [] hk0 v0 (by refine cc _ ?_ <| cc _ ?_ <| cc _ ?_ <| cc _ ?_ <| cc _ ?_ <| cc _ ?_ <| cc _ ?_ <| cc _ ?_ <| cc _ ?_ <| cc _ ?_ <| cc _ ?_ <| cc _ ?_ <| cc _ ?_ <| cc _ ?_ <| cc _ ?_ <| cc _ ?_ <| cc _ ?_ <| cc _ ?_ c0 <;> first | omega | (simp; omega) | (simp; done) | (intros; simp_all; omega) | (intros; simp_all; done)) ?_
  refine Bd (q := ((((!decide (a.kind = b.kind)) || (!decide (a.name = b.name))) || (!decide (a.op = b.op))) || (!decide (a.evr = b.evr))) || (!decide ((a.args.length : Int) = (b.args.length : Int)))) (by kernel_rfl) (fun c1 => ?_) (fun c1 => ?_)
  · try simp only [Ao] at c1
    refine Aa [] [4] ?_
    refine Ag ?_
    refine RK wR [(.bool (false))] ?_
    refine Same.of_eq (congrArg AV.bool (Eq.symm ?_))
    rw [Bool.eq_false_iff]
    intro q
    have q := (Iz _ _).1 q
    subst q
    simp at c1
  · try simp only [Ao] at c1
    refine Ai ?_
    refine Ad ?_
    refine Aa [] [2, 3, 5] ?_
    refine A1 ?_
    refine Bv (fun g y => ∃ (i : Nat), i ≤ a.args.length ∧ (∀ j, j < i → nth a.args j = nth b.args j) ∧ y = ⟨[(2, (.fp (.agg [(.int .i64 (a.kind)), (.str (a.name)), (.int .i64 (a.op)), (.str (a.evr)), (.row 5 a.args.length (depAt a.args))]))), (3, (.fp (.agg [(.int .i64 (b.kind)), (.str (b.name)), (.int .i64 (b.op)), (.str (b.evr)), (.row 5 b.args.length (depAt b.args))]))), (5, (.int .i64 ((i : Int))))], [], 2⟩ ∧ g = a.args.length - i) [2, 3, 5] 2 _ (by omega) ⟨0, (by omega), (by exact fun j hj => by omega), (by kernel_rfl), rfl⟩ ?_
    rintro g1 y1 ⟨i, f1_1, f1_2, rfl, rfl⟩
    refine Ad ?_
    refine Aa [] [2, 3, 5, 46] ?_
    refine A6 (p := (i : Int) < (a.args.length : Int)) (by kernel_rfl) (fun c2 => ?_) (fun c2 => ?_)
    · skip
      refine Ai ?_
      refine Ad ?_
      refine A1 ?_
      refine Cq (CS := [(3, (0 ≤ (i : Int) ∧ i < a.args.length)), (8, (0 ≤ (i : Int) ∧ i < b.args.length))]) [] [2, 3, 5, 6] [] (hk 10 S1 (ih i (by omega) (by omega)) <| hk0) (vk 3 50 (Ha a.args) <| vk 8 55 (Ha b.args) <| v0) (by refine cc _ ?_ <| cc _ ?_ c0 <;> first | omega | (simp; omega) | (simp; done) | (intros; simp_all; omega) | (intros; simp_all; done)) ?_
      refine Aa [] [2, 3, 5, 61] ?_
      refine Bd (q := !(B7 (nth a.args i) (nth b.args i))) (by kernel_rfl) (fun c3 => ?_) (fun c3 => ?_)
      · try simp only [Ao] at c3
        refine Aa [] [4] ?_
        refine Ag ?_
        refine RK wR [(.bool (false))] ?_
        refine Same.of_eq (congrArg AV.bool (Eq.symm ?_))
        rw [Bool.eq_false_iff]
        intro q
        have q := (Iz _ _).1 q
        subst q
        rw [(Iz _ _).2 rfl] at c3
        simp at c3
      · try simp only [Ao] at c3
        refine Ai ?_
        refine Ap ?_
        refine Av 0 [] [2, 3, 5] [] hk0 v0 (cc 1 (p := (-9223372036854775808 ≤ (i : Int) + 1 ∧ (i : Int) + 1 ≤ 9223372036854775807)) (by first | omega | (simp; omega) | (simp; done) | (intros; simp_all; omega) | (intros; simp_all; done)) <| c0) ?_
        refine ⟨by kernel_rfl, _, ?_, i + 1, ?_, ?_, (by kernel_rfl), rfl⟩
        · omega
        · omega
        · intro j hj
          by_cases h : j = i
          · subst h; exact (Iz _ _).1 (by simp_all)
          · exact f1_2 j (by omega)
    · skip
      refine Br ?_
      refine Aa [] [4] ?_
      refine Ag ?_
      refine RK wR [(.bool (true))] ?_
      refine Same.of_eq (congrArg AV.bool (Eq.symm ?_))
      exact (Iz _ _).2 (X1w (by omega) (by simp_all) (by omega) (by simp_all) (Xn (by omega) (fun j hj => f1_2 j (by omega))))
theorem Q44 : ∀ (n : Nat) (a b : DepT), a.size ≤ n → a.size ≤ 4194304 → b.size ≤ 4194304 → FnV Tryz.prog 80 [(.agg [(.int .i64 (a.kind)), (.str (a.name)), (.int .i64 (a.op)), (.str (a.evr)), (.row 5 a.args.length (depAt a.args))]), (.agg [(.int .i64 (b.kind)), (.str (b.name)), (.int .i64 (b.op)), (.str (b.evr)), (.row 5 b.args.length (depAt b.args))])] (.bool (B7 a b)) := by
  intro n
  induction n with
  | zero => intro a b h; have := Ep a; omega
  | succ n ih => exact fun a b h ha hb => Q43 a b ha hb fun i h1 h2 => ih _ _ (by have h1 := Gj h1; omega) (by have h1 := Gj h1; omega) (by have h1 := Gj h2; omega)
theorem Q45 (a b : List Dn) (ha : a.length ≤ 4611686018427) (hsa : ∀ x ∈ a, x.2.2.size ≤ 4194304) (hsb : ∀ x ∈ b, x.2.2.size ≤ 4194304) :
    FnV Tryz.prog 26 [(Ac 7 B5 a), (Ac 7 B5 b)] (.bool (Nm a b)) := by
  refine A4 [.tmp 4] Tryz.func26 rfl Tryz.ntmps26 rfl rfl (fun B F hF => ?_)
  refine Aa [] [0, 1] ?_
  refine Ad ?_
  refine Aa [] [0, 1, 11] ?_
  refine Da (p := (a.length : Int) = (b.length : Int)) (by kernel_rfl) (fun c1 => ?_) (fun c1 => ?_)
  · skip
    refine Aa [] [4] ?_
    refine Ag ?_
    refine RK wR [(.bool (false))] ?_
    exact Same.of_eq (congrArg AV.bool (Q1n (fun q => c1 (by rw [q]))).symm)
  · skip
    refine Ai ?_
    refine Ad ?_
    refine Aa [] [0, 1, 5] ?_
    refine A1 ?_
    refine Bv (fun g y => ∃ (i : Nat), i ≤ a.length ∧ (∀ j, j < i → nth a j = nth b j) ∧ y = ⟨[(0, (Ac 7 B5 a)), (1, (Ac 7 B5 b)), (5, (.int .i64 ((i : Int))))], [], 0⟩ ∧ g = a.length - i) [0, 1, 5] 0 _ (by omega) ⟨0, (by omega), (by exact fun j hj => by omega), (by kernel_rfl), rfl⟩ ?_
    rintro g1 y1 ⟨i, f1_1, f1_2, rfl, rfl⟩
    refine Ad ?_
    refine Aa [] [0, 1, 5, 15] ?_
    refine A6 (p := (i : Int) < (a.length : Int)) (by kernel_rfl) (fun c2 => ?_) (fun c2 => ?_)
    · skip
      refine Ai ?_
      refine Ad ?_
      refine A1 ?_
      refine Cq (CS := [(2, (0 ≤ (i : Int) ∧ i < a.length)), (7, (0 ≤ (i : Int) ∧ i < b.length))]) [] [0, 1, 5, 6] [] (hk 10 S1 (Q44 _ (nth a i).2.2 (nth b i).2.2 (Nat.le_refl _) (hsa _ (Lc (by omega))) (hsb _ (Lc (by omega)))) <| hk0) v0 (by refine cc _ ?_ <| cc _ ?_ c0 <;> first | omega | (simp; omega) | (simp; done) | (intros; simp_all; omega) | (intros; simp_all; done)) ?_
      refine Cq (CS := [(5, ((!(!(B7 (nth a i).2.2 (nth b i).2.2))) = true → ((!(!(B7 (nth a i).2.2 (nth b i).2.2))) = true ∧ (!(!(B7 (nth a i).2.2 (nth b i).2.2))) = true) ∧ (0 ≤ (i : Int) ∧ i < a.length))), (6, ((!(!(B7 (nth a i).2.2 (nth b i).2.2))) = true → (!(!(B7 (nth a i).2.2 (nth b i).2.2))) = true)), (7, ((!(!(B7 (nth a i).2.2 (nth b i).2.2))) = true → (!(!(B7 (nth a i).2.2 (nth b i).2.2))) = true)), (10, ((!(!(B7 (nth a i).2.2 (nth b i).2.2))) = true → ((!(!(B7 (nth a i).2.2 (nth b i).2.2))) = true ∧ (!(!(B7 (nth a i).2.2 (nth b i).2.2))) = true) ∧ (0 ≤ (i : Int) ∧ i < b.length))), (11, ((!(!(B7 (nth a i).2.2 (nth b i).2.2))) = true → (!(!(B7 (nth a i).2.2 (nth b i).2.2))) = true)), (12, ((!(!(B7 (nth a i).2.2 (nth b i).2.2))) = true → (!(!(B7 (nth a i).2.2 (nth b i).2.2))) = true)), (13, ((!(!(B7 (nth a i).2.2 (nth b i).2.2))) = true → (!(!(B7 (nth a i).2.2 (nth b i).2.2))) = true ∧ (!(!(B7 (nth a i).2.2 (nth b i).2.2))) = true)), (14, ((!(B7 (nth a i).2.2 (nth b i).2.2)) = false → (!(!(B7 (nth a i).2.2 (nth b i).2.2))) = true)), (18, ((!((!(B7 (nth a i).2.2 (nth b i).2.2)) || (!decide (((nth a i).1) = ((nth b i).1))))) = true → ((!((!(B7 (nth a i).2.2 (nth b i).2.2)) || (!decide (((nth a i).1) = ((nth b i).1))))) = true ∧ (!((!(B7 (nth a i).2.2 (nth b i).2.2)) || (!decide (((nth a i).1) = ((nth b i).1))))) = true) ∧ (0 ≤ (i : Int) ∧ i < a.length))), (19, ((!((!(B7 (nth a i).2.2 (nth b i).2.2)) || (!decide (((nth a i).1) = ((nth b i).1))))) = true → (!((!(B7 (nth a i).2.2 (nth b i).2.2)) || (!decide (((nth a i).1) = ((nth b i).1))))) = true)), (20, ((!((!(B7 (nth a i).2.2 (nth b i).2.2)) || (!decide (((nth a i).1) = ((nth b i).1))))) = true → (!((!(B7 (nth a i).2.2 (nth b i).2.2)) || (!decide (((nth a i).1) = ((nth b i).1))))) = true)), (23, ((!((!(B7 (nth a i).2.2 (nth b i).2.2)) || (!decide (((nth a i).1) = ((nth b i).1))))) = true → ((!((!(B7 (nth a i).2.2 (nth b i).2.2)) || (!decide (((nth a i).1) = ((nth b i).1))))) = true ∧ (!((!(B7 (nth a i).2.2 (nth b i).2.2)) || (!decide (((nth a i).1) = ((nth b i).1))))) = true) ∧ (0 ≤ (i : Int) ∧ i < b.length))), (24, ((!((!(B7 (nth a i).2.2 (nth b i).2.2)) || (!decide (((nth a i).1) = ((nth b i).1))))) = true → (!((!(B7 (nth a i).2.2 (nth b i).2.2)) || (!decide (((nth a i).1) = ((nth b i).1))))) = true)), (25, ((!((!(B7 (nth a i).2.2 (nth b i).2.2)) || (!decide (((nth a i).1) = ((nth b i).1))))) = true → (!((!(B7 (nth a i).2.2 (nth b i).2.2)) || (!decide (((nth a i).1) = ((nth b i).1))))) = true)), (26, ((!((!(B7 (nth a i).2.2 (nth b i).2.2)) || (!decide (((nth a i).1) = ((nth b i).1))))) = true → (!((!(B7 (nth a i).2.2 (nth b i).2.2)) || (!decide (((nth a i).1) = ((nth b i).1))))) = true ∧ (!((!(B7 (nth a i).2.2 (nth b i).2.2)) || (!decide (((nth a i).1) = ((nth b i).1))))) = true)), (27, (((!(B7 (nth a i).2.2 (nth b i).2.2)) || (!decide (((nth a i).1) = ((nth b i).1)))) = false → (!((!(B7 (nth a i).2.2 (nth b i).2.2)) || (!decide (((nth a i).1) = ((nth b i).1))))) = true))]) [32, 33, 34, 35, 36, 37, 38, 39, 40, 41, 42, 45, 46, 47, 48, 49, 50, 51, 52, 53, 54, 55] [0, 1, 5, 56] [] hk0 v0 (by refine cc _ ?_ <| cc _ ?_ <| cc _ ?_ <| cc _ ?_ <| cc _ ?_ <| cc _ ?_ <| cc _ ?_ <| cc _ ?_ <| cc _ ?_ <| cc _ ?_ <| cc _ ?_ <| cc _ ?_ <| cc _ ?_ <| cc _ ?_ <| cc _ ?_ <| cc _ ?_ c0 <;> first | omega | (simp; omega) | (simp; done) | (intros; simp_all; omega) | (intros; simp_all; done)) ?_
      refine Bd (q := ((!(B7 (nth a i).2.2 (nth b i).2.2)) || (!decide (((nth a i).1) = ((nth b i).1)))) || (!(((nth a i).2.1) == ((nth b i).2.1)))) (by kernel_rfl) (fun c3 => ?_) (fun c3 => ?_)
      · try simp only [Ao] at c3
        refine Aa [] [4] ?_
        refine Ag ?_
        refine RK wR [(.bool (false))] ?_
        exact Same.of_eq (congrArg AV.bool (Q1n (fun q => by subst q; rw [(Iz _ _).2 rfl] at c3; simp at c3)).symm)
      · try simp only [Ao] at c3
        refine Ai ?_
        refine Ap ?_
        refine Av 0 [] [0, 1, 5] [] hk0 v0 (cc 1 (p := (-9223372036854775808 ≤ (i : Int) + 1 ∧ (i : Int) + 1 ≤ 9223372036854775807)) (by first | omega | (simp; omega) | (simp; done) | (intros; simp_all; omega) | (intros; simp_all; done)) <| c0) ?_
        refine ⟨by kernel_rfl, _, ?_, i + 1, ?_, ?_, (by kernel_rfl), rfl⟩
        · omega
        · omega
        · intro j hj
          by_cases h : j = i
          · subst h; exact X2l (by simp_all) (by simp_all) ((Iz _ _).1 (by simp_all))
          · exact f1_2 j (by omega)
    · skip
      refine Br ?_
      refine Aa [] [4] ?_
      refine Ag ?_
      refine RK wR [(.bool (true))] ?_
      exact Same.of_eq (congrArg AV.bool (Q1m (Xn (by omega) (fun j hj => f1_2 j (by omega)))).symm)
theorem X2v  :
    FnV Tryz.prog 22 [] (.bool (true)) := by
  refine A4 [.tmp 0] Tryz.func22 rfl Tryz.ntmps22 rfl rfl (fun B F hF => ?_)
  refine Aa [] [] ?_
  refine Ah [] [1] [] hk0 (vk 2 13 (a := (.agg [(.int .i64 (1)), (.str ([98])), (.int .i64 (0)), (.str ([])), .nils])) (b := (.agg [(.int .i64 (owB.kind)), (.str (owB.name)), (.int .i64 (owB.op)), (.str (owB.evr)), (.row 5 owB.args.length (depAt owB.args))])) ((Imp.aggs (ImpL.cons Imp.refl (ImpL.cons Imp.refl (ImpL.cons Imp.refl (ImpL.cons Imp.refl (ImpL.cons (Imp.nil.trans (Pu [])) ImpL.nil))))))) <| v0) c0 ?_
  refine Ah [] [1, 2] [(0, 1), (2, 15)] hk0 (vk 2 15 (b := (Ac 5 Al [owB])) (Imp.list (f := Al) rfl) <| vk 4 16 (a := (.agg [(.str ([97])), (.str ([49, 45, 49])), (.str ([110, 111, 97, 114, 99, 104])), (.str ([])), .nils, (Ac 5 Al [owB]), .nils, .nils, .nils, .nils, .nils, .nils])) (b := (As owP)) ((Imp.aggs (ImpL.cons Imp.refl (ImpL.cons Imp.refl (ImpL.cons Imp.refl (ImpL.cons Imp.refl (ImpL.cons Imp.nil (ImpL.cons Imp.refl (ImpL.cons Imp.nil (ImpL.cons Imp.nil (ImpL.cons Imp.nil (ImpL.cons Imp.nil (ImpL.cons Imp.nil (ImpL.cons Imp.nil ImpL.nil)))))))))))))) <| v0) c0 ?_
  refine Ah [] [1, 3] [(0, 2), (3, 20), (5, 22)] (hk 5 Zx (Q6h) <| hk0) (vk 2 19 (a := (.agg [(.str ([98])), (.str ([49, 45, 49])), (.str ([110, 111, 97, 114, 99, 104])), (.str ([])), .nils, .nils, .nils, .nils, .nils, .nils, .nils, .nils])) (b := (As owQ)) ((Imp.aggs (ImpL.cons Imp.refl (ImpL.cons Imp.refl (ImpL.cons Imp.refl (ImpL.cons Imp.refl (ImpL.cons Imp.nil (ImpL.cons Imp.nil (ImpL.cons Imp.nil (ImpL.cons Imp.nil (ImpL.cons Imp.nil (ImpL.cons Imp.nil (ImpL.cons Imp.nil (ImpL.cons Imp.nil ImpL.nil)))))))))))))) <| vk 3 20 (b := (Ac 12 As [owP, owQ])) (Imp.list (f := As) rfl) <| vk 4 21 (a := (.agg [(.str ([109, 97, 105, 110])), (.int .i64 (0)), (.bool (false)), (Ac 12 As [owP, owQ])])) (b := (.agg [(.str (owR.name)), (.int .i64 (owR.prio)), (.bool (owR.inst)), (Ac 12 As owR.pkgs)])) ((Imp.aggs (ImpL.cons Imp.refl (ImpL.cons Imp.refl (ImpL.cons Imp.refl (ImpL.cons Imp.refl ImpL.nil)))))) <| vk 5 22 (b := (Ac 4 Bf [owR])) (Imp.list (f := Bf) rfl) <| v0) c0 ?_
  refine Ad ?_
  refine Aa [] [1, 3, 27] ?_
  refine Ei (by kernel_rfl) ?_
  refine Ai ?_
  refine Ah [] [1, 3, 5, 6, 7] [(2, 30)] (hk 2 (al := [(.fp (Bo owS)), .nils, (Af [0, 1])]) S6 (((Uh owS W4 [] [0, 1] (by decide) (by decide)).of_args (ImpL.cons Imp.refl (ImpL.cons Imp.nil (ImpL.cons Imp.refl ImpL.nil)))).to (Same.of_eq (by rw [Q6g]))) <| hk0) (vk 2 30 (b := (Af [0, 1])) (Imp.list (f := AV.int .i64) rfl) <| v0) c0 ?_
  refine Ah [] [1, 5, 6, 7, 8, 9, 10] [(2, 37)] (hk 2 (al := [(.fp (Bo owS)), .nils, (Af [0])]) S6 (((Uh owS W4 [] [0] (by decide) (by decide)).of_args (ImpL.cons Imp.refl (ImpL.cons Imp.nil (ImpL.cons Imp.refl ImpL.nil)))).to (Same.of_eq (by rw [Q6e]))) <| hk0) (vk 2 37 (b := (Af [0])) (Imp.list (f := AV.int .i64) rfl) <| v0) c0 ?_
  refine Ah [] [1, 6, 7, 8, 9, 10, 11] [(4, 45)] (hk 4 Q98 ((Q5v [owX, owY] [owX, owY] (by decide)).to (Same.of_eq (congrArg AV.bool (decide_eq_true rfl)))) <| hk0) (vk 3 43 (a := (.agg [(.int .i64 (1)), (.int .i64 (1)), (.int .i64 (-1))])) (b := (.agg [(.int .i64 (owX.1)), (.int .i64 (owX.2.1)), (.int .i64 (owX.2.2))])) ((Imp.aggs (ImpL.cons Imp.refl (ImpL.cons Imp.refl (ImpL.cons Imp.refl ImpL.nil))))) <| vk 3 44 (a := (.agg [(.int .i64 (1)), (.int .i64 (0)), (.int .i64 (-1))])) (b := (.agg [(.int .i64 (owY.1)), (.int .i64 (owY.2.1)), (.int .i64 (owY.2.2))])) ((Imp.aggs (ImpL.cons Imp.refl (ImpL.cons Imp.refl (ImpL.cons Imp.refl ImpL.nil))))) <| vk 4 45 (b := (Ac 3 A2 [owX, owY])) (Imp.list (f := A2) rfl) <| v0) c0 ?_
  refine Ah [] [6, 7, 8, 10, 11, 12] [(4, 50)] (hk 4 Q97 ((Q45 [owK] [owK] (by decide) (by simp; decide) (by simp; decide)).to (Same.of_eq (congrArg AV.bool (Q1m rfl)))) <| hk0) (vk 3 49 (a := (.agg [(.int .i64 (0)), (.bool (false)), (.int .i64 (owB.kind)), (.str (owB.name)), (.int .i64 (owB.op)), (.str (owB.evr)), (.row 5 owB.args.length (depAt owB.args))])) (b := (.agg [(.int .i64 (owK.1)), (.bool (owK.2.1)), (.int .i64 (owK.2.2.kind)), (.str (owK.2.2.name)), (.int .i64 (owK.2.2.op)), (.str (owK.2.2.evr)), (.row 5 owK.2.2.args.length (depAt owK.2.2.args))])) ((Imp.aggs (ImpL.cons Imp.refl (ImpL.cons Imp.refl (ImpL.cons Imp.refl (ImpL.cons Imp.refl (ImpL.cons Imp.refl (ImpL.cons Imp.refl (ImpL.cons Imp.refl ImpL.nil))))))))) <| vk 4 50 (b := (Ac 7 B5 [owK])) (Imp.list (f := B5) rfl) <| v0) c0 ?_
  obtain ⟨b1, hb1⟩ : ∃ b, b = (decide ((([] : List Dn).length : Int) = 0)) := ⟨_, rfl⟩
  obtain ⟨b2, hb2⟩ : ∃ b, b = ((b1 && true) && (decide (([(1, 0, -1)].length : Int) = 1))) := ⟨_, rfl⟩
  refine Ah (CS := [(12, (b1 = true → b1 = true)), (13, (b1 = true → b1 = true)), (16, ((b1 && true) = true → (b1 && true) = true)), (17, ((b1 && true) = true → (b1 && true) = true)), (18, ((b1 && true) = true → (b1 && true) = true)), (21, (b2 = true → b2 = true))]) [63, 64, 67, 68, 69, 72] [0] [] hk0 (vk 10 61 (a := .bool (decide ((([] : List Dn).length : Int) = 0))) (b := .bool b1) (Imp.of_eq (by rw [hb1])) <| vk 19 70 (a := .bool ((b1 && true) && (decide (([(1, 0, -1)].length : Int) = 1)))) (b := .bool b2) (Imp.of_eq (by rw [hb2])) <| v0) (by refine cc _ ?_ <| cc _ ?_ <| cc _ ?_ <| cc _ ?_ <| cc _ ?_ <| cc _ ?_ c0 <;> first | omega | (simp; omega) | (simp; done) | (intros; simp_all; omega) | (intros; simp_all; done)) ?_
  refine Ag ?_
  refine RK wR [(.bool (b2 && true))] ?_
  subst hb2 hb1
  exact Same.of_eq (by first | rfl | (simp only [Ak]; simp_all))
end Sv
end Go.Proofs.YtlmloohlmlahfaaGreatDoor
end
section
namespace Go.Proofs.YtlmloohlmlahfaaGreatDoor
open Go Go.RowKit
namespace Sv
attribute [local irreducible] SW SO Bn
set_option maxHeartbeats 1000000
set_option maxRecDepth 100000
theorem X17 {l : List Bk} {x : Bk} {k : Nat} (h : k < l.length) (e : nth l k = x) : (((l.take (k + 1)).count x : Nat) : Int) = (((l.take k).count x : Nat) : Int) + 1 := by
  rw [H4 h, List.count_append, e]; simp
theorem X18 {l : List Bk} {x : Bk} {k : Nat} (h : k < l.length) (e : ¬ nth l k = x) : (((l.take (k + 1)).count x : Nat) : Int) = (((l.take k).count x : Nat) : Int) := by
  rw [H4 h, List.count_append, List.count_singleton]; simp [e]
theorem X19 (l : List Bk) (x : Bk) (k : Nat) : (l.take k).count x ≤ k := Nat.le_trans List.count_le_length (by rw [List.length_take]; omega)
theorem orderLeads_ok (l : List RepoT) (hll : l.length ≤ 1048576) (hl : ∀ i, i < l.length → (nth l i).size ≤ 1048576) (rs : List Int) (hrs : rs.length ≤ 1048576) (hbr : ∀ i, i < rs.length → -9223372036854775808 ≤ nth rs i ∧ nth rs i ≤ 9223372036854775807) (ks : List Int) (hks : ks.length ≤ 1048576) (hbk : ∀ i, i < ks.length → -9223372036854775808 ≤ nth ks i ∧ nth ks i ≤ 9223372036854775807) :
    FnV Tryz.prog 5 [(Ac 4 Bf l), (Af rs), (Af ks)] (.bool (true)) := by
  have hl4 : ∀ i, i < l.length → (nth l i).size ≤ 4194304 := fun i hi => Nat.le_trans (hl i hi) (by decide)
  have hi := Q1r (k := Am 2) hl4
  have hpl : (An (Am 2) l).2.length = (An (Am 2) l).1.all.length := (X2p (Am 2) l).1
  have h200 := hi.1
  have hfl := Q2m (An (Am 2) l).2.length rs
  have htl := Q2m (An (Am 2) l).2.length ks
  have hfi : ∀ q ∈ (Cf (An (Am 2) l).2.length rs), 0 ≤ q ∧ q < (An (Am 2) l).1.all.length := fun q hq => by have h := Q2n hq; rw [hpl] at h; exact h
  have hti : ∀ q ∈ (Cf (An (Am 2) l).2.length ks), 0 ≤ q ∧ q < (An (Am 2) l).1.all.length := fun q hq => by have h := Q2n hq; rw [hpl] at h; exact h
  have e1 := Kx (m := Ab) hfi hti
  have hn := Qz (U6 Ab (An (Am 2) l).1 (Cf (An (Am 2) l).2.length rs) (Cf (An (Am 2) l).2.length ks))
  have hab : ∀ q : List Bk, q.Perm (Ek (B9 Ab (An (Am 2) l).1) (Cf (An (Am 2) l).2.length rs) (Cf (An (Am 2) l).2.length ks)) → Ar (Cf (An (Am 2) l).2.length rs) q = (Cf (An (Am 2) l).2.length ks) := fun q hq => Q4a (U9 Ab (An (Am 2) l).1) (X3k _ _) hq
  obtain ⟨h1, h2⟩ := Q6l (m := Ab) hfi hti
  have hfew : (Ek (B9 Ab (An (Am 2) l).1) (Cf (An (Am 2) l).2.length rs) (Cf (An (Am 2) l).2.length ks)).length ≤ 200 := by have := U7 hi hfi hti; rw [e1] at this; exact this
  obtain ⟨sb, hsb⟩ : ∃ sb, Ek (B9 Ab (An (Am 2) l).1) (Cf (An (Am 2) l).2.length rs) (Cf (An (Am 2) l).2.length ks) = sb := ⟨_, rfl⟩
  rw [hsb] at e1 hn h1 hfew
  obtain ⟨oa, ob, hor, hp, hap⟩ : ∃ oa ob, E9 Ab (An (Am 2) l).1 (Cf (An (Am 2) l).2.length rs) (Cf (An (Am 2) l).2.length ks) = (oa, ob, 0) ∧ oa.Perm sb ∧ Ar (Cf (An (Am 2) l).2.length rs) oa = (Cf (An (Am 2) l).2.length ks) := ⟨_, _, Prod.ext rfl (Prod.ext rfl h2), h1, hab _ (by rw [hsb]; exact h1)⟩
  have hlen := hp.length_eq
  refine A4 [.tmp 6] Tryz.func5 rfl Tryz.ntmps5 rfl rfl (fun B F hF => ?_)
  refine Aa [] [0, 1, 2] ?_
  refine Ah [] [0, 1, 2, 7] [] (hk 0 X0b (X2v) <| hk0) v0 c0 ?_
  refine Ah [] [1, 2, 7, 8, 9] [] (hk 1 Zx (Q3g 2 l (by omega) hl4) <| hk0) v0 c0 ?_
  refine Ad ?_
  refine Aa [] [1, 2, 8, 9, 31] ?_
  refine Ei (by kernel_rfl) ?_
  refine Ai ?_
  refine Ah [] [2, 8, 9, 10] [] (hk 2 Q0b (V2 (An (Am 2) l).1 (An (Am 2) l).2 rs (by omega) (by omega) hbr) <| hk0) v0 c0 ?_
  refine Ah [] [8, 10, 11] [] (hk 2 Q0b (V2 (An (Am 2) l).1 (An (Am 2) l).2 ks (by omega) (by omega) hbk) <| hk0) v0 c0 ?_
  refine Ah [] [8, 10, 11, 12, 14] [] (hk 3 S6 ((Uh (An (Am 2) l).1 hi (Cf (An (Am 2) l).2.length rs) (Cf (An (Am 2) l).2.length ks) (by omega) (by omega)).to (Same.of_eq (by rw [hor]))) <| hk0) v0 c0 ?_
  refine Ah [] [10, 11, 12, 14, 15, 16] [] (hk 3 Q0a ((Q2z (An (Am 2) l).1 hi (Cf (An (Am 2) l).2.length rs) (Cf (An (Am 2) l).2.length ks) (by omega) (by omega)).to (Same.of_eq (by rw [e1]))) <| hk0) v0 c0 ?_
  refine Ad ?_
  refine Aa [] [10, 11, 12, 15, 65] ?_
  refine Da (p := (oa.length : Int) = (sb.length : Int)) (by kernel_rfl) (fun c1 => ?_) (fun c1 => ?_)
  · skip
    exfalso; omega
  · skip
    refine Ai ?_
    refine Ad ?_
    refine Aa [] [10, 11, 12, 15, 17] ?_
    refine A1 ?_
    refine Bv (fun g y => ∃ (i : Nat), i ≤ sb.length ∧ y = ⟨[(10, (Af (Cf (An (Am 2) l).2.length rs))), (11, (Af (Cf (An (Am 2) l).2.length ks))), (12, (Ac 3 A2 oa)), (15, (Ac 3 A2 sb)), (17, (.int .i64 ((i : Int))))], [], 0⟩ ∧ g = sb.length - i) [10, 11, 12, 15, 17] 0 _ (by omega) ⟨0, (by omega), (by kernel_rfl), rfl⟩ ?_
    rintro g1 y1 ⟨i, f1_1, rfl, rfl⟩
    refine Ad ?_
    refine Aa [] [10, 11, 12, 15, 17, 69] ?_
    refine A6 (p := (i : Int) < (sb.length : Int)) (by kernel_rfl) (fun c2 => ?_) (fun c2 => ?_)
    · skip
      refine Ai ?_
      refine Ad ?_
      refine A1 ?_
      refine Aa [] [10, 11, 12, 15, 17, 18] ?_
      refine Ad ?_
      refine Aa [] [10, 11, 12, 15, 17, 18, 19] ?_
      refine A1 ?_
      refine Bv (fun g y => ∃ (k : Nat), k ≤ oa.length ∧ y = ⟨[(10, (Af (Cf (An (Am 2) l).2.length rs))), (11, (Af (Cf (An (Am 2) l).2.length ks))), (12, (Ac 3 A2 oa)), (15, (Ac 3 A2 sb)), (17, (.int .i64 ((i : Int)))), (18, (.int .i64 ((((oa.take k).count (nth sb i) : Nat) : Int)))), (19, (.int .i64 ((k : Int))))], [], 0⟩ ∧ g = oa.length - k) [10, 11, 12, 15, 17, 18, 19] 0 _ (by omega) ⟨0, (by omega), (by kernel_rfl), rfl⟩ ?_
      rintro g2 y2 ⟨k, f2_1, rfl, rfl⟩
      have hcl := X19 oa (nth sb i) k
      refine Ad ?_
      refine Aa [] [10, 11, 12, 15, 17, 18, 19, 75] ?_
      refine A6 (p := (k : Int) < (oa.length : Int)) (by kernel_rfl) (fun c3 => ?_) (fun c3 => ?_)
      · skip
        refine Ai ?_
        refine Ad ?_
        refine A1 ?_
        refine Ad ?_
        refine It (by kernel_rfl) (fun F1 hF1 => ?_)
        refine C0 (fuel := 1) [] [0, 1, 2, 3, 4, 5, 6, 7] [10, 11, 12, 15, 17, 18, 19, 81, 85] (hold (p := (0 ≤ (k : Int) ∧ k < oa.length) ∧ (0 ≤ (i : Int) ∧ i < sb.length)) (by first | omega | (simp; omega) | (simp; done) | (intros; simp_all; omega) | (intros; simp_all; done))) ?_
        refine Fx (fuel := 0) 8 (by kernel_rfl) ?_
        refine Db (fuel := 0) 8 rfl ?_
        refine L7 (s' := [(10, (Af (Cf (An (Am 2) l).2.length rs))), (11, (Af (Cf (An (Am 2) l).2.length ks))), (12, (Ac 3 A2 oa)), (15, (Ac 3 A2 sb)), (17, (.int .i64 ((i : Int)))), (18, (.int .i64 ((((oa.take k).count (nth sb i) : Nat) : Int)))), (19, (.int .i64 ((k : Int)))), (81, (.agg [(.int .i64 ((nth oa k).1)), (.int .i64 ((nth oa k).2.1)), (.int .i64 ((nth oa k).2.2))])), (85, (.agg [(.int .i64 ((nth sb i).1)), (.int .i64 ((nth sb i).2.1)), (.int .i64 ((nth sb i).2.2))])), (86, (.bool (decide ((nth oa k).1 = ((nth sb i).1)) && (decide ((nth oa k).2.1 = ((nth sb i).2.1)) && (decide ((nth oa k).2.2 = ((nth sb i).2.2)) && true)))))]) (.bool (decide ((nth oa k).1 = ((nth sb i).1)) && (decide ((nth oa k).2.1 = ((nth sb i).2.1)) && (decide ((nth oa k).2.2 = ((nth sb i).2.2)) && true)))) (by kernel_rfl) (Q4s (l := [(.int .i64 ((nth oa k).1)), (.int .i64 ((nth oa k).2.1)), (.int .i64 ((nth oa k).2.2))]) (m := [(.int .i64 ((nth sb i).1)), (.int .i64 ((nth sb i).2.1)), (.int .i64 ((nth sb i).2.2))]) (r := decide ((nth oa k).1 = ((nth sb i).1)) && (decide ((nth oa k).2.1 = ((nth sb i).2.1)) && (decide ((nth oa k).2.2 = ((nth sb i).2.2)) && true))) (.inl (by kernel_rfl)) (.inl (by kernel_rfl)) (by kernel_rfl) (by kernel_rfl) (by kernel_rfl) (by kernel_rfl)) (by kernel_rfl) ?_
        refine Bx ⟨rfl, ?_⟩
        refine Az [10, 11, 12, 15, 17, 18, 19, 86] ?_
        refine Gi (by kernel_rfl) ?_
        refine Bd (q := decide ((nth oa k).1 = ((nth sb i).1)) && (decide ((nth oa k).2.1 = ((nth sb i).2.1)) && (decide ((nth oa k).2.2 = ((nth sb i).2.2)) && true))) (by kernel_rfl) (fun c4 => ?_) (fun c4 => ?_)
        · try simp only [Ao] at c4
          refine Ap ?_
          refine Av 0 [] [10, 11, 12, 15, 17, 18, 19] [] hk0 v0 (cc 1 (p := (-9223372036854775808 ≤ (((oa.take k).count (nth sb i) : Nat) : Int) + 1 ∧ (((oa.take k).count (nth sb i) : Nat) : Int) + 1 ≤ 9223372036854775807)) (by first | omega | (simp; omega) | (simp; done) | (intros; simp_all; omega) | (intros; simp_all; done)) <| c0) ?_
          refine Ap ?_
          refine Av 0 [] [10, 11, 12, 15, 17, 18, 19] [] hk0 v0 (cc 1 (p := (-9223372036854775808 ≤ (k : Int) + 1 ∧ (k : Int) + 1 ≤ 9223372036854775807)) (by first | omega | (simp; omega) | (simp; done) | (intros; simp_all; omega) | (intros; simp_all; done)) <| c0) ?_
          refine ⟨by kernel_rfl, _, ?_, k + 1, ?_, (Eq.trans (b := (⟨[(10, (Af (Cf (An (Am 2) l).2.length rs))), (11, (Af (Cf (An (Am 2) l).2.length ks))), (12, (Ac 3 A2 oa)), (15, (Ac 3 A2 sb)), (17, (.int .i64 ((i : Int)))), (18, (.int .i64 ((((oa.take k).count (nth sb i) : Nat) : Int) + 1))), (19, (.int .i64 ((k : Int) + 1)))], [], 0⟩ : St)) (by kernel_rfl) (by rw [X17 (l := oa) (x := nth sb i) (k := k) (by omega) (Va (by simp at c4; omega) (by simp at c4; omega) (by simp at c4; omega))] <;> kernel_rfl)), rfl⟩
          · omega
          · omega
        · try simp only [Ao] at c4
          refine Ai ?_
          refine Ap ?_
          refine Av 0 [] [10, 11, 12, 15, 17, 18, 19] [] hk0 v0 (cc 1 (p := (-9223372036854775808 ≤ (k : Int) + 1 ∧ (k : Int) + 1 ≤ 9223372036854775807)) (by first | omega | (simp; omega) | (simp; done) | (intros; simp_all; omega) | (intros; simp_all; done)) <| c0) ?_
          refine ⟨by kernel_rfl, _, ?_, k + 1, ?_, (Eq.trans (b := (⟨[(10, (Af (Cf (An (Am 2) l).2.length rs))), (11, (Af (Cf (An (Am 2) l).2.length ks))), (12, (Ac 3 A2 oa)), (15, (Ac 3 A2 sb)), (17, (.int .i64 ((i : Int)))), (18, (.int .i64 ((((oa.take k).count (nth sb i) : Nat) : Int)))), (19, (.int .i64 ((k : Int) + 1)))], [], 0⟩ : St)) (by kernel_rfl) (by rw [X18 (l := oa) (x := nth sb i) (k := k) (by omega) (fun e => by rw [e] at c4; simp at c4)] <;> kernel_rfl)), rfl⟩
          · omega
          · omega
      · skip
        refine Br ?_
        refine Aa [] [10, 11, 12, 15, 17, 90] ?_
        refine Da (p := (((oa.take k).count (nth sb i) : Nat) : Int) = 1) (by kernel_rfl) (fun c5 => ?_) (fun c5 => ?_)
        · skip
          have hc1 : (oa.take k).count (nth sb i) = 1 := by rw [List.take_of_length_le (by omega)]; exact X11 hp hn (Lc (by omega))
          exfalso; omega
        · skip
          refine Ai ?_
          refine Ap ?_
          refine Av 0 [] [10, 11, 12, 15, 17] [] hk0 v0 (cc 1 (p := (-9223372036854775808 ≤ (i : Int) + 1 ∧ (i : Int) + 1 ≤ 9223372036854775807)) (by first | omega | (simp; omega) | (simp; done) | (intros; simp_all; omega) | (intros; simp_all; done)) <| c0) ?_
          refine ⟨by kernel_rfl, _, ?_, i + 1, ?_, (by kernel_rfl), rfl⟩
          · omega
          · omega
    · skip
      refine Br ?_
      refine Ah [] [6] [] (hk 2 Z9 ((Q3m (Cf (An (Am 2) l).2.length rs) oa (by omega) (by omega)).to (Same.of_eq (by rw [hap]))) <| hk 4 X0l ((Q5u (Cf (An (Am 2) l).2.length ks) (Cf (An (Am 2) l).2.length ks) (by omega)).to (Same.of_eq (congrArg AV.bool (decide_eq_true rfl)))) <| hk0) v0 c0 ?_
      refine Ag ?_
      refine RK wR [(.bool (true))] ?_
      exact Same.of_eq (by first | rfl | (simp only [Ak]; simp_all))
end Sv
end Go.Proofs.YtlmloohlmlahfaaGreatDoor
end
section
namespace Go.Proofs.YtlmloohlmlahfaaGreatDoor
open Go Go.RowKit
section
variable {H : Type} {enc : TypeId × Value → H} {P : Program} {W : World}
def Two {α β : Type} (R : α → β → Prop) : List α → List β → Prop
  | [], [] => True
  | a :: l, b :: m => R a b ∧ Two R l m
  | _, _ => False
theorem Two.len {α β : Type} {R : α → β → Prop} : ∀ {l : List α} {m : List β}, Two R l m → m.length = l.length
  | [], [], _ => rfl
  | _ :: _, _ :: _, h => by simp only [List.length_cons, Two.len h.2]
theorem X3m {w : World} {a : Addr} {v : Value} (h : w.cell? a = some v) : a.spot = none := by
  unfold World.cell? at h
  cases hs : a.spot with
  | none => rfl
  | some k => rw [hs] at h; split at h <;> simp at h
theorem Xc {α : Type} {e : TypeId} {sz n : Nat} {a : Addr} (hc : P.cellsOf e = sz) {Q : α → List Value → Prop} {size : α → Nat}
    (each : ∀ cs' y, cs'.length = sz → DataW.trod enc P W 0 (fun _ => true) true n e cs' = some y → ∃ x, Q x cs' ∧ size x ≤ Rows.uptoBulk y.1) :
    ∀ (elems : List (DataW H × List MemPlace)) (i : Nat), (∀ j, j < elems.length → (W.cells? 0 (a.add ((i + j) * sz)) sz).bind (DataW.trod enc P W 0 (fun _ => true) true n e) = elems[j]?) →
      ∃ (l : List α) (css : List (List Value)), l.length = elems.length ∧ Two Q l css ∧ (l.map size).sum ≤ Rows.uptoBulkAll (elems.map (·.1)) ∧ (∀ c ∈ css, c.length = sz) ∧
        ∀ j u, css.flatten[j]? = some u → W.cell? (a.add (i * sz + j)) = some u
  | [], i, _ => ⟨[], [], rfl, trivial, by simp, by simp, by simp⟩
  | y :: r, i, h => by
    have h0 := h 0 (by simp)
    simp only [Nat.add_zero, List.getElem?_cons_zero] at h0
    obtain ⟨cs', h1, h2⟩ := Option.bind_eq_some_iff.1 h0
    obtain ⟨_, hl, hcs⟩ := World.cells?_some h1
    obtain ⟨x, hx, hs⟩ := each cs' y hl h2
    obtain ⟨l, css, e1, e2, e3, e4, e5⟩ := Xc hc each r (i + 1) (fun j hj => by
      have := h (j + 1) (by simpa using hj)
      rw [show i + (j + 1) = i + 1 + j by omega] at this
      simpa using this)
    refine ⟨x :: l, cs' :: css, by simp [e1], ⟨hx, e2⟩, ?_, ?_, ?_⟩
    · simp only [List.map_cons, List.sum_cons, Rows.uptoBulkAll]; omega
    · intro c hc'; rcases List.mem_cons.1 hc' with rfl | hc'
      · exact hl
      · exact e4 c hc'
    · intro j u hu
      rw [List.flatten_cons] at hu
      by_cases hj : j < sz
      · rw [List.getElem?_append_left (by omega)] at hu
        have := hcs j hj
        rw [hu] at this
        rw [← this]
        congr 1
        show a.add (i * sz + j) = (a.add (i * sz)).add j
        unfold Addr.add
        by_cases h1 : i * sz = 0 <;> by_cases h2 : j = 0 <;> simp [h1, h2, Nat.add_assoc]
      · rw [List.getElem?_append_right (by omega), hl] at hu
        have := e5 (j - sz) u hu
        rw [← this]; congr 2
        have : (i + 1) * sz = i * sz + sz := by rw [Nat.add_mul, Nat.one_mul]
        omega
theorem Q6t {α : Type} {t e : TypeId} {sz fuel : Nat} {cs : List Value} {y : DataW H × List MemPlace} (ht : P.underlying t = some (.slice e)) (hc : P.cellsOf e = sz) (hsz : 0 < sz) {Q : α → List Value → Prop} {size : α → Nat}
    (each : ∀ n cs' y, n < fuel → cs'.length = sz → DataW.trod enc P W 0 (fun _ => true) true n e cs' = some y → ∃ x, Q x cs' ∧ size x ≤ Rows.uptoBulk y.1) (h : DataW.trod enc P W 0 (fun _ => true) true fuel t cs = some y) :
    ∃ (v : Value) (l : List α) (css : List (List Value)), cs = [v] ∧ RowIs W v l.length sz css.flatten ∧ Two Q l css ∧ (∀ c ∈ css, c.length = sz) ∧ (l.map size).sum + 1 ≤ Rows.uptoBulk y.1 := by
  rcases DataW.trod_slice ht h with ⟨rfl, rfl⟩ | ⟨a, len, cap, elems, rest, n, hf, rfl, rfl, _, _, _, hlen, hel, _, _⟩
  · exact ⟨_, [], [], rfl, ⟨by simp, .inl ⟨rfl, _, _, rfl⟩⟩, trivial, by simp, by simp [Rows.uptoBulk]⟩
  · subst hc
    obtain ⟨l, css, e1, e2, e3, e4, e5⟩ := Xc (a := a) rfl (each n · · (by omega)) elems 0 (fun j hj => by rw [Nat.zero_add]; exact hel j (by omega))
    have hfl : css.flatten.length = l.length * P.cellsOf e := by
      rw [← e2.len, List.length_flatten]
      clear e5 e2 e1
      induction css with
      | nil => simp
      | cons c r ih => simp only [List.map_cons, List.sum_cons, List.length_cons]; rw [ih (fun c hc => e4 c (by simp [hc])), e4 c (by simp), Nat.add_mul]; omega
    refine ⟨_, l, css, rfl, ⟨hfl, ?_⟩, e2, e4, by simp only [Rows.uptoBulk]; omega⟩
    by_cases hn : l.length = 0
    · exact .inl ⟨hn, some a, cap, by rw [← hlen, ← e1, hn]⟩
    · right
      have hp : 0 < css.flatten.length := by rw [hfl]; exact Nat.mul_pos (by omega) hsz
      have hsp := X3m (a := a) (by have := e5 0 _ (List.getElem?_eq_getElem hp); rw [Nat.zero_mul] at this; exact this)
      obtain ⟨b, o, sp⟩ := a
      simp only at hsp; subst hsp
      refine ⟨b, o, cap, by rw [← hlen, ← e1], fun j u hu => ?_⟩
      have := e5 j u hu
      rw [Nat.zero_mul, Nat.zero_add] at this
      rw [← this]; congr 1
      unfold Addr.add; split <;> simp_all
end
section
variable {H : Type} {enc : TypeId × Value → H} {W : World}
theorem Jj (s : ByteArray) : Value.string s = S s.data.toList := by simp [S]
theorem Q15 (l : List DepT) : (l.map DepT.size).sum = argsSize l := by
  induction l with
  | nil => rfl
  | cons d r ih => simp only [List.map_cons, List.sum_cons, argsSize, ih]
end
end Go.Proofs.YtlmloohlmlahfaaGreatDoor
end
section
namespace Go.Proofs.YtlmloohlmlahfaaGreatDoor
open Go Go.RowKit
set_option linter.unusedSimpArgs false
set_option linter.unusedVariables false
namespace Sv
def Eh (W : World) : Nat → Option Obj := fun b => W.heap[b]?
theorem Q84 (W : World) : Fro (Eh W) W := fun _ _ e => e
theorem Q1h {w : World} {b k : Nat} {v : Value} (h : w.cell? ⟨b, k, none⟩ = some v) : ∃ cs e fr, w.heap[b]? = some (.cells cs e fr) ∧ cs[k]? = some v := by
  unfold World.cell? at h
  split at h
  · rename_i c e fr hb
    exact ⟨c, e, fr, hb, by simpa using h⟩
  · cases h
theorem N2 {α : Type} [Inhabited α] {R : α → List Value → Prop} : ∀ {l : List α} {m : List (List Value)}, Two R l m → ∀ {i}, i < l.length → R (Go.Proofs.YtlmloohlmlahfaaGreatDoor.nth l i) (Go.Proofs.YtlmloohlmlahfaaGreatDoor.nth m i)
  | [], [], _, i, h => by simp at h
  | _ :: _, [], h, _, _ => h.elim
  | a :: l, b :: m, h, 0, _ => h.1
  | a :: l, b :: m, h, i + 1, hi => N2 (l := l) (m := m) h.2 (by simpa using hi)
section
variable {H : Type} {enc : TypeId × Value → H} {P : Program} {W : World}
theorem K9 {α : Type} [Inhabited α] {t e : TypeId} {sz fuel : Nat} {cs : List Value} {y : DataW H × List MemPlace} (ht : P.underlying t = some (.slice e)) (hc : P.cellsOf e = sz) (hsz : 0 < sz) {f : α → AV} {size : α → Nat} (wrap : List Value → Value)
    (hw : ∀ cs', cs'.length = sz → (∀ c ∈ cs', c.oneCell' = true) → (wrap cs').cells.toList = cs')
    (each : ∀ n cs' y, n < fuel → cs'.length = sz → DataW.trod enc P W 0 (fun _ => true) true n e cs' = some y → ∃ x, (VR (ofF (Eh W)) (f x) (wrap cs') ∧ ∀ c ∈ cs', c.oneCell' = true) ∧ size x ≤ Rows.uptoBulk y.1) (h : DataW.trod enc P W 0 (fun _ => true) true fuel t cs = some y) :
    ∃ (v : Value) (l : List α), cs = [v] ∧ VR (ofF (Eh W)) (Ac sz f l) v ∧ (l.map size).sum + 1 ≤ Rows.uptoBulk y.1 := by
  obtain ⟨v, l, css, rfl, hr, h2, h4, h5⟩ := Q6t (Q := fun x cs' => VR (ofF (Eh W)) (f x) (wrap cs') ∧ ∀ c ∈ cs', c.oneCell' = true) ht hc hsz each h
  refine ⟨v, l, rfl, ?_, h5⟩
  have hshape : v = .slice none 0 0 ∨ ∃ a n c, v = .slice (some a) n c ∧ n ≤ c := by
    rcases DataW.trod_slice ht h with ⟨e, _⟩ | ⟨a, len, cap, _, _, _, _, e, _, _, hle, _⟩
    · left; simpa using e
    · right; exact ⟨a, len, cap, by simpa using e, hle⟩
  unfold Ac
  simp only [VR]
  have hlen := h2.len
  refine ⟨fun i => wrap (nth css i), fun i hi => (N2 h2 hi).1, ?_⟩
  rcases hr.2 with ⟨h0, a, c, rfl⟩ | ⟨b, o, c, rfl, hcell⟩
  · refine .inl ⟨h0, ?_⟩
    rcases hshape with e | ⟨a', n, c', e, _⟩
    · exact .inl e
    · cases e; exact .inr ⟨a', c, rfl⟩
  · have hnc : l.length ≤ c := by
      rcases hshape with e | ⟨a', n, c', e, hle⟩
      · cases e
      · cases e; exact hle
    refine .inr ⟨b, o, c, rfl, hnc, fun i hi => ?_⟩
    have hmem : nth css i ∈ css := Lc (by omega)
    have hwr := hw _ (h4 _ hmem) (N2 h2 hi).2
    have hat : ∀ j, j < sz → css.flatten[i * sz + j]? = (nth css i)[j]? := fun j hj => Ph (sz := sz) css i j h4 (by omega) hj
    refine ⟨by rw [← Array.length_toList, hwr]; exact h4 _ hmem, ?_⟩
    rw [hwr]
    have hl := h4 _ hmem
    obtain ⟨cs0, e0, fr0, k1, _⟩ := Q1h (hcell (i * sz + 0) _ ((hat 0 hsz).trans (List.getElem?_eq_getElem (show 0 < (nth css i).length by omega))))
    refine ⟨cs0, e0, fr0, k1, fun j u hu => ?_⟩
    have hj : j < sz := by have := (List.getElem?_eq_some_iff.1 hu).1; omega
    obtain ⟨cs1, e1, fr1, k2, k3⟩ := Q1h (hcell (i * sz + j) u ((hat j hj).trans hu))
    rw [k1] at k2; cases k2
    exact ⟨by rw [Nat.add_assoc]; exact k3, (N2 h2 hi).2 u (List.mem_of_getElem? hu)⟩
set_option maxRecDepth 100000 in
theorem Xd : ∀ (fuel : Nat) (cs : List Value) (x : DataW H × List MemPlace), DataW.trod enc Tryz.prog W 0 (fun _ => true) true fuel 25 cs = some x → ∃ d : DepT, (VR (ofF (Eh W)) (Al d) (.agg cs.toArray) ∧ ∀ c ∈ cs, c.oneCell' = true) ∧ d.size ≤ Rows.uptoBulk x.1 := by
  intro fuel
  induction fuel using Nat.strongRecOn with
  | ind fuel ih =>
  intro cs x h
  obtain ⟨xs, n, hf, rfl, hl, hxs, hfs⟩ := DataW.trod_struct Tryz.underlying25 h
  have hl' : cs.length = 5 := hl.trans (by kernel_rfl)
  match cs, hl' with
  | [c0, c1, c2, c3, c4], _ =>
  match xs, hxs with
  | [y0, y1, y2, y3, y4], _ =>
  have g0 : DataW.trod enc Tryz.prog W 0 (fun _ => true) true n 3 (([c0, c1, c2, c3, c4].drop 0).take (Tryz.prog.cellsOf 3)) = some y0 := hfs 0 _ rfl
  have g1 : DataW.trod enc Tryz.prog W 0 (fun _ => true) true n 9 (([c0, c1, c2, c3, c4].drop 1).take (Tryz.prog.cellsOf 9)) = some y1 := hfs 1 _ rfl
  have g2 : DataW.trod enc Tryz.prog W 0 (fun _ => true) true n 3 (([c0, c1, c2, c3, c4].drop 2).take (Tryz.prog.cellsOf 3)) = some y2 := hfs 2 _ rfl
  have g3 : DataW.trod enc Tryz.prog W 0 (fun _ => true) true n 9 (([c0, c1, c2, c3, c4].drop 3).take (Tryz.prog.cellsOf 9)) = some y3 := hfs 3 _ rfl
  have g4 : DataW.trod enc Tryz.prog W 0 (fun _ => true) true n 23 (([c0, c1, c2, c3, c4].drop 4).take (Tryz.prog.cellsOf 23)) = some y4 := hfs 4 _ rfl
  have k1 : Tryz.prog.cellsOf 3 = 1 := by kernel_rfl
  have k2 : Tryz.prog.cellsOf 9 = 1 := by kernel_rfl
  have k3 : Tryz.prog.cellsOf 23 = 1 := by kernel_rfl
  have k4 : Tryz.prog.cellsOf 25 = 5 := by kernel_rfl
  rw [k1] at g0 g2; rw [k2] at g1 g3; rw [k3] at g4
  simp only [List.drop_zero, List.drop_succ_cons, List.take_succ_cons, List.take_zero] at g0 g1 g2 g3 g4
  obtain ⟨k, e0, rfl, _⟩ := DataW.trod_int Tryz.underlying3 g0
  obtain ⟨nm, e1, rfl, _⟩ := DataW.trod_string Tryz.underlying9 g1
  obtain ⟨op, e2, rfl, _⟩ := DataW.trod_int Tryz.underlying3 g2
  obtain ⟨ev, e3, rfl, _⟩ := DataW.trod_string Tryz.underlying9 g3
  obtain ⟨v, l, e4, hr, hb⟩ := K9 (f := Al) (size := DepT.size) Tryz.underlying23 k4 (by omega) (fun cs => .agg cs.toArray) (fun cs' _ _ => by simp [Value.cells]) (fun n' cs' y hn _ hy => ih n' (by omega) cs' y hy) g4
  have hsl : v.oneCell' = true := by
    have hr' := hr
    unfold Ac at hr'
    simp only [VR] at hr'
    obtain ⟨u, _, h0 | ⟨b, o, c, rfl, _⟩⟩ := hr'
    · rcases h0 with ⟨_, rfl | ⟨a, c, rfl⟩⟩ <;> rfl
    · rfl
  simp only [List.cons.injEq, and_true] at e0 e1 e2 e3 e4
  subst e0 e1 e2 e3 e4
  refine ⟨.mk k nm.data.toList op ev.data.toList l, ⟨?_, ?_⟩, ?_⟩
  · refine Q04 _ _ _ ?_
    simp only [VR]
    refine ⟨_, .cons (by simp only [VR]; rfl) (.cons (by simp only [VR]; exact Jj nm) (.cons (by simp only [VR]; rfl) (.cons (by simp only [VR]; exact Jj ev) (.cons hr .nil)))), rfl⟩
  · intro c hc
    simp only [List.mem_cons, List.not_mem_nil, or_false] at hc
    rcases hc with rfl | rfl | rfl | rfl | rfl
    · rfl
    · rfl
    · rfl
    · rfl
    · exact hsl
  · rw [Q15] at hb
    simp only [DepT.size, List.map_cons, List.map_nil, Rows.uptoBulk, Rows.uptoBulkAll]
    omega
set_option maxRecDepth 100000 in
theorem open_depV {r : Reach} {b0 : Nat} {v : Value} {d : DataW H} {p : List MemPlace} (hv : Value.okWide Tryz.prog W r b0 25 v) (h : DataW.Trod enc Tryz.prog W 0 (fun _ => true) true 25 v d p) :
    ∃ t : DepT, VR (ofF (Eh W)) (Al t) v ∧ t.size ≤ Rows.uptoBulk d := by
  obtain ⟨cs, rfl, _⟩ := Go.WideShapes.okWide_struct Tryz.underlying25 hv
  obtain ⟨fuel, hf⟩ := h
  obtain ⟨t, h1, h2⟩ := Xd fuel _ _ hf
  exact ⟨t, by have := h1.1; simpa [Value.cells] using this, h2⟩
end
theorem FnV.calls {P : Program} {f : Nat} {al : List AV} {W : World} {vs : List Value} (h : FnV P f al (.bool true)) (hv : VRl (ofF (Eh W)) al vs) : Calls P f vs.toArray W (Ret fun v w' => v = .bool true ∧ Below W.heap.size W w') :=
  (h (Eh W) W vs (Q84 W) hv).mono fun e w' hh => by
    obtain ⟨v, he, hb, F', _, _, _, k⟩ := hh
    simp only [VR] at k
    exact ⟨v, he, k, hb⟩
end Sv
end Go.Proofs.YtlmloohlmlahfaaGreatDoor
end
