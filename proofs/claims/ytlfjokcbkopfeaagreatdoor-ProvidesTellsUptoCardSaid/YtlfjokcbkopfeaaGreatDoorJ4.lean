/- The texts Evr6, Ref7a, PoolP, Awake7, ProvP, OwnP, SortI, IdsV, SetP, IdsM, Ref1, Evr7, DiffP, Ref3a, Ref3b, Ref3c, NamP, Ref7b, Ref7c, TellsP, Tells1, Tells2, OpenD, OpenV of the proof, joined. Each says at its theorems what it proves. -/
import Derived.Test.YtlfjokcbkopfeaaGreatDoorJ3
import Derived.Shelf.Slices.In.SortNone
import Derived.Test.YtlfjokcbkopfeaaGreatDoorRows
import Derived.ChangeArms
import Derived.WideShapes
set_option linter.unusedSimpArgs false
set_option linter.unusedVariables false
section
namespace Go.Proofs.YtlfjokcbkopfeaaGreatDoor
open Go Go.RowKit
namespace Sv
attribute [local irreducible] SW SO Bg
set_option maxHeartbeats 1000000
set_option maxRecDepth 100000
theorem Q83 : As Tryz.prog 131 := Ax Tryz.func131 (by kernel_rfl) rfl
def Hm (a b : List UInt8) : Int := C9 (a.length + b.length + 1) a b
def F9 (a b : List UInt8) : Int := Ek (a.length + b.length + 1) a b
theorem Zu (a b : List UInt8) (ha : a.length ≤ 4194304) (hb : b.length ≤ 4194304) : FnV Tryz.prog 164 [.str a, .str b] (.int .i64 (Hm a b)) := Q9z _ a b (by omega) ha hb
theorem Uj (a b : List UInt8) (ha : a.length ≤ 4194304) (hb : b.length ≤ 4194304) : FnV Tryz.prog 166 [.str a, .str b] (.int .i64 (F9 a b)) := Q3i _ a b (by omega) ha hb
theorem D8 {a : List UInt8} (h : a.length ≤ 4194304) : (orS a [48]).length ≤ 4194304 := by unfold orS; split <;> simp [h]
def B9 (k : Int) (a b : (List UInt8 × List UInt8 × List UInt8)) : Int × Int :=
 if k = 2 then (orI (Ci a.1 b.1) (Hm a.2.1 b.2.1), Hm (orS a.2.2 [48]) (orS b.2.2 [48]))
 else if a.2.2 = [] ∨ b.2.2 = [] then (orI (Ci a.1 b.1) (F9 a.2.1 b.2.1), Em (!decide (a.2.2 = [])) (!decide (b.2.2 = [])) 1)
 else (orI (Ci a.1 b.1) (F9 a.2.1 b.2.1), F9 a.2.2 b.2.2)
def Jm (a b : List UInt8) (c d : Int) : Int := if c = 0 ∧ ¬ a = [] ∧ ¬ b = [] then d else c
def Fq (c op o : Int) : Bool :=
 if c < 0 then !decide (Go.bits .and .i64 op 4 = 0) || !decide (Go.bits .and .i64 o 1 = 0)
 else if 0 < c then !decide (Go.bits .and .i64 op 1 = 0) || !decide (Go.bits .and .i64 o 4 = 0)
 else !decide (Go.bits .and .i64 op o = 0)
def Fp (k : Int) (a b : List UInt8) : Int := Jm (A7 k a b).1.2.2 (A7 k a b).2.1.2.2 (B9 k (A7 k a b).1 (A7 k a b).2.1).1 (B9 k (A7 k a b).1 (A7 k a b).2.1).2
def A0 (k op : Int) (a : List UInt8) (o : Int) (b : List UInt8) : Bool × Int :=
 if (¬ k = 1 ∧ ¬ k = 2) ∨ op < 0 ∨ 7 < op ∨ o < 0 ∨ 7 < o then (false, 1)
 else if op = 0 ∨ o = 0 then (true, 0)
 else if ¬ (A7 k a b).2.2 = 0 then (false, (A7 k a b).2.2)
 else (Fq (Fp k a b) op o, 0)
theorem Yi (l : List UInt8) : (Cc l).1.length ≤ l.length ∧ (Cc l).2.1.length ≤ l.length ∧ (Cc l).2.2.length ≤ l.length := by
 unfold Cc
 split
 ·unfold Mj
  refine ⟨?_, ?_, ?_⟩
  ·show (if _ then _ else _ : List UInt8).length ≤ _
   split <;> simp; omega
  ·show (if _ then _ else _ : List UInt8).length ≤ _
   split <;> (try rw [List.length_take]) <;> split <;> simp <;> omega
  ·show (if _ then _ else _ : List UInt8).length ≤ _
   split <;> (try rw [List.length_drop]) <;> (try split) <;> simp <;> omega
 ·simp
theorem Z8 (k : Int) (a b : List UInt8) : (A7 k a b).1.1.length ≤ a.length ∧ (A7 k a b).1.2.1.length ≤ a.length ∧ (A7 k a b).1.2.2.length ≤ a.length ∧ (A7 k a b).2.1.1.length ≤ b.length ∧ (A7 k a b).2.1.2.1.length ≤ b.length ∧ (A7 k a b).2.1.2.2.length ≤ b.length := by
 have h1 := Yi a
 have h2 := Yi b
 unfold A7
 split
 ·simp
 ·split <;> simp <;> omega
theorem Q4j (k : Int) (a b : (List UInt8 × List UInt8 × List UInt8)) (ha : a.1.length ≤ 4194304 ∧ a.2.1.length ≤ 4194304 ∧ a.2.2.length ≤ 4194304) (hb : b.1.length ≤ 4194304 ∧ b.2.1.length ≤ 4194304 ∧ b.2.2.length ≤ 4194304) :
  FnV Tryz.prog 131 [(.int .i64 k), (.agg [(.str a.1), (.str a.2.1), (.str a.2.2)]), (.agg [(.str b.1), (.str b.2.1), (.str b.2.2)])] (.tup [.int .i64 (B9 k a b).1, .int .i64 (B9 k a b).2]) := by
 refine Ba [.tmp 6, .tmp 7] Tryz.func131 rfl Tryz.ntmps131 rfl rfl (fun B F hF => ?_)
 refine Ae [] [0, 4, 5] [(1, 4), (2, 5)] hk0 v0 c0 ?_
 refine Ae [] [0, 4, 5, 8] [] (hk 4 R4 (Qw a.1 b.1) <| hk0) v0 c0 ?_
 refine Ab ?_
 refine Aa [] [4, 5, 8, 15] ?_
 refine A8 (p := k = 2) (by kernel_rfl) (fun c1 => ?_) (fun c1 => ?_)
 ·refine Cg [] [6, 7] [(7, 22), (11, 26), (15, 30)] (hk 5 Zf (Zu a.2.1 b.2.1 (by omega) (by omega)) <| hk 7 R6 (Qr (Ci a.1 b.1) (Hm a.2.1 b.2.1)) <| hk 11 Ze (V7 a.2.2 [48]) <| hk 15 Ze (V7 b.2.2 [48]) <| hk 16 Zf (Zu (orS a.2.2 [48]) (orS b.2.2 [48]) (by exact D8 (by first | exact ha.2.2 | exact hb.2.2)) (by exact D8 (by first | exact ha.2.2 | exact hb.2.2))) <| hk0) (vk 7 22 (b := (Bu [Ci a.1 b.1, Hm a.2.1 b.2.1])) (Imp.list (f := AV.int .i64) rfl) <| vk 11 26 (b := (Ch ([a.2.2, [48]]))) (Imp.list (f := AV.str) rfl) <| vk 15 30 (b := (Ch ([b.2.2, [48]]))) (Imp.list (f := AV.str) rfl) <| v0) c0 ?_
  refine Ag ?_
  refine RK wR [(.int .i64 (orI (Ci a.1 b.1) (Hm a.2.1 b.2.1))), (.int .i64 (Hm (orS a.2.2 [48]) (orS b.2.2 [48])))] ?_
  refine Same.of_eq ?_
  simp only [Aj]
  unfold B9
  rw [if_pos c1]
 ·refine Ai ?_
  refine Ae [] [4, 5, 8] [(7, 39)] (hk 5 Zd (Uj a.2.1 b.2.1 (by omega) (by omega)) <| hk 7 R6 (Qr (Ci a.1 b.1) (F9 a.2.1 b.2.1)) <| hk0) (vk 7 39 (b := (Bu [Ci a.1 b.1, F9 a.2.1 b.2.1])) (Imp.list (f := AV.int .i64) rfl) <| v0) c0 ?_
  refine Ab ?_
  refine Ae (CS := [(5, ((!(decide (a.2.2 = []))) = true → (!(decide (a.2.2 = []))) = true)), (6, ((!(decide (a.2.2 = []))) = true → (!(decide (a.2.2 = []))) = true)), (7, ((decide (a.2.2 = [])) = false → (!(decide (a.2.2 = []))) = true))]) [45, 46, 47] [4, 5, 8, 48] [] hk0 v0 (by refine cc _ ?_ <| cc _ ?_ <| cc _ ?_ c0 <;> simp) ?_
  refine A9 (q := (decide (a.2.2 = [])) || (decide (b.2.2 = []))) (by kernel_rfl) (fun c2 => ?_) (fun c2 => ?_)
  ·try simp only [Al] at c2
   refine Ae [] [6, 7] [] (hk 7 Oz (N4 (!decide (a.2.2 = [])) (!decide (b.2.2 = [])) 1 (by omega)) <| hk0) v0 c0 ?_
   refine Ag ?_
   refine RK wR [(.int .i64 (orI (Ci a.1 b.1) (F9 a.2.1 b.2.1))), (.int .i64 (Em (!decide (a.2.2 = [])) (!decide (b.2.2 = [])) 1))] ?_
   refine Same.of_eq ?_
   simp only [Aj]
   unfold B9
   rw [if_neg c1, if_pos c2]
  ·try simp only [Al] at c2
   refine Ai ?_
   refine Ae [] [6, 7] [] (hk 5 Zd (Uj a.2.2 b.2.2 (by omega) (by omega)) <| hk0) v0 c0 ?_
   refine Ag ?_
   refine RK wR [(.int .i64 (orI (Ci a.1 b.1) (F9 a.2.1 b.2.1))), (.int .i64 (F9 a.2.2 b.2.2))] ?_
   refine Same.of_eq ?_
   simp only [Aj]
   unfold B9
   rw [if_neg c1, if_neg (by simp [c2.1, c2.2])]
theorem Q5z (k op : Int) (a : List UInt8) (o : Int) (b : List UInt8) (ha : a.length ≤ 4194304) (hb : b.length ≤ 4194304) :
  FnV Tryz.prog 159 [(.int .i64 k), (.int .i64 op), (.str a), (.int .i64 o), (.str b)] (.tup [.bool (A0 k op a o b).1, .int .i64 (A0 k op a o b).2]) := by
 have hbl := Z8 k a b
 refine Ba [.tmp 10, .tmp 11] Tryz.func159 rfl Tryz.ntmps159 rfl rfl (fun B F hF => ?_)
 refine Aa [] [0, 1, 2, 3, 4] ?_
 refine Ab ?_
 refine A3 ?_
 refine Ae (CS := [(4, ((!decide (k = 1)) = true → (!decide (k = 1)) = true)), (5, ((!decide (k = 1)) = true → (!decide (k = 1)) = true)), (8, ((!((!decide (k = 1)) && (!decide (k = 2)))) = true → (!((!decide (k = 1)) && (!decide (k = 2)))) = true)), (9, (((!decide (k = 1)) && (!decide (k = 2))) = false → (!((!decide (k = 1)) && (!decide (k = 2)))) = true)), (12, ((!(((!decide (k = 1)) && (!decide (k = 2))) || (decide (op < 0)))) = true → (!(((!decide (k = 1)) && (!decide (k = 2))) || (decide (op < 0)))) = true)), (13, ((((!decide (k = 1)) && (!decide (k = 2))) || (decide (op < 0))) = false → (!(((!decide (k = 1)) && (!decide (k = 2))) || (decide (op < 0)))) = true)), (16, ((!((((!decide (k = 1)) && (!decide (k = 2))) || (decide (op < 0))) || (decide (7 < op)))) = true → (!((((!decide (k = 1)) && (!decide (k = 2))) || (decide (op < 0))) || (decide (7 < op)))) = true)), (17, (((((!decide (k = 1)) && (!decide (k = 2))) || (decide (op < 0))) || (decide (7 < op))) = false → (!((((!decide (k = 1)) && (!decide (k = 2))) || (decide (op < 0))) || (decide (7 < op)))) = true)), (20, ((!(((((!decide (k = 1)) && (!decide (k = 2))) || (decide (op < 0))) || (decide (7 < op))) || (decide (o < 0)))) = true → (!(((((!decide (k = 1)) && (!decide (k = 2))) || (decide (op < 0))) || (decide (7 < op))) || (decide (o < 0)))) = true)), (21, ((((((!decide (k = 1)) && (!decide (k = 2))) || (decide (op < 0))) || (decide (7 < op))) || (decide (o < 0))) = false → (!(((((!decide (k = 1)) && (!decide (k = 2))) || (decide (op < 0))) || (decide (7 < op))) || (decide (o < 0)))) = true))]) [21, 22, 25, 26, 29, 30, 33, 34, 37, 38] [0, 1, 2, 3, 4, 17] [] hk0 v0 (by refine cc _ ?_ <| cc _ ?_ <| cc _ ?_ <| cc _ ?_ <| cc _ ?_ <| cc _ ?_ <| cc _ ?_ <| cc _ ?_ <| cc _ ?_ <| cc _ ?_ c0 <;> first | omega | (simp; omega) | (simp; done) | (intros; simp_all; omega) | (intros; simp_all; done)) ?_
 refine A9 (q := (((((!decide (k = 1)) && (!decide (k = 2))) || (decide (op < 0))) || (decide (7 < op))) || (decide (o < 0))) || (decide (7 < o))) (by kernel_rfl) (fun c1 => ?_) (fun c1 => ?_)
 ·try simp only [Al] at c1
  refine Aa [] [10, 11] ?_
  refine Ag ?_
  refine RK wR [(.bool false), (.int .i64 1)] ?_
  refine Same.of_eq ?_
  simp only [Aj]
  rw [show A0 k op a o b = (false, 1) from by unfold A0; rw [if_pos (by omega)]]
 ·try simp only [Al] at c1
  refine Ae (CS := [(4, ((!(decide (op = 0))) = true → (!(decide (op = 0))) = true)), (5, ((decide (op = 0)) = false → (!(decide (op = 0))) = true))]) [44, 45] [0, 1, 2, 3, 4, 40] [] hk0 v0 (by refine cc _ ?_ <| cc _ ?_ c0 <;> simp) ?_
  refine A9 (q := (decide (op = 0)) || (decide (o = 0))) (by kernel_rfl) (fun c2 => ?_) (fun c2 => ?_)
  ·try simp only [Al] at c2
   refine Aa [] [10, 11] ?_
   refine Ag ?_
   refine RK wR [(.bool true), (.int .i64 0)] ?_
   refine Same.of_eq ?_
   simp only [Aj]
   rw [show A0 k op a o b = (true, 0) from by unfold A0; rw [if_neg (by omega), if_pos (by omega)]]
  ·try simp only [Al] at c2
   refine Ai ?_
   refine Ae [] [0, 1, 3, 12, 13, 14] [(11, 12), (12, 13)] (hk 3 Q84 (X0l k a b (by omega) (by omega)) <| hk0) v0 c0 ?_
   refine Ab ?_
   refine Aa [] [0, 1, 3, 12, 13, 14, 56] ?_
   refine Cj (p := ((A7 k a b).2.2) = 0) (by kernel_rfl) (fun c3 => ?_) (fun c3 => ?_)
   ·refine Aa [] [10, 11] ?_
    refine Ag ?_
    refine RK wR [(.bool false), (.int .i64 ((A7 k a b).2.2))] ?_
    refine Same.of_eq ?_
    simp only [Aj]
    rw [show A0 k op a o b = (false, (A7 k a b).2.2) from by unfold A0; rw [if_neg (by omega), if_neg (by omega), if_pos (by omega)]]
   ·refine Ai ?_
    refine Ae [] [1, 3, 12, 13, 15, 16] [] (hk 3 Q83 (Q4j k (A7 k a b).1 (A7 k a b).2.1 ⟨by omega, by omega, by omega⟩ ⟨by omega, by omega, by omega⟩) <| hk0) v0 c0 ?_
    refine C7 (fun y => ∃ (c : Int), c = Jm (A7 k a b).1.2.2 (A7 k a b).2.1.2.2 (B9 k (A7 k a b).1 (A7 k a b).2.1).1 (B9 k (A7 k a b).1 (A7 k a b).2.1).2 ∧ y = ⟨[(1, (.int .i64 op)), (3, (.int .i64 o)), (15, (.int .i64 c))], [], 2⟩) [1, 3, 15] 2 (by omega) ?_ ?_
    ·refine Ae (CS := [(4, ((decide (((B9 k (A7 k a b).1 (A7 k a b).2.1).1) = 0)) = true → (decide (((B9 k (A7 k a b).1 (A7 k a b).2.1).1) = 0)) = true)), (5, ((decide (((B9 k (A7 k a b).1 (A7 k a b).2.1).1) = 0)) = true → (decide (((B9 k (A7 k a b).1 (A7 k a b).2.1).1) = 0)) = true)), (6, ((decide (((B9 k (A7 k a b).1 (A7 k a b).2.1).1) = 0)) = true → (decide (((B9 k (A7 k a b).1 (A7 k a b).2.1).1) = 0)) = true)), (9, (((decide (((B9 k (A7 k a b).1 (A7 k a b).2.1).1) = 0)) && (!decide (((A7 k a b).1).2.2 = []))) = true → ((decide (((B9 k (A7 k a b).1 (A7 k a b).2.1).1) = 0)) && (!decide (((A7 k a b).1).2.2 = []))) = true)), (10, (((decide (((B9 k (A7 k a b).1 (A7 k a b).2.1).1) = 0)) && (!decide (((A7 k a b).1).2.2 = []))) = true → ((decide (((B9 k (A7 k a b).1 (A7 k a b).2.1).1) = 0)) && (!decide (((A7 k a b).1).2.2 = []))) = true)), (11, (((decide (((B9 k (A7 k a b).1 (A7 k a b).2.1).1) = 0)) && (!decide (((A7 k a b).1).2.2 = []))) = true → ((decide (((B9 k (A7 k a b).1 (A7 k a b).2.1).1) = 0)) && (!decide (((A7 k a b).1).2.2 = []))) = true))]) [68, 69, 70, 73, 74, 75] [1, 3, 15, 16, 76] [] hk0 v0 (by refine cc _ ?_ <| cc _ ?_ <| cc _ ?_ <| cc _ ?_ <| cc _ ?_ <| cc _ ?_ c0 <;> simp) ?_
     refine A9 (q := ((decide (((B9 k (A7 k a b).1 (A7 k a b).2.1).1) = 0)) && (!decide (((A7 k a b).1).2.2 = []))) && (!decide (((A7 k a b).2.1).2.2 = []))) (by kernel_rfl) (fun c4 => ?_) (fun c4 => ?_)
     ·try simp only [Al] at c4
      refine Ar ?_
      refine D4 [] [1, 3, 15] ?_
      refine ⟨by kernel_rfl, ((B9 k (A7 k a b).1 (A7 k a b).2.1).2), ?_, (by kernel_rfl)⟩
      unfold Jm
      rw [if_pos (by simp_all)]
     ·try simp only [Al] at c4
      refine Ai ?_
      refine ⟨by kernel_rfl, ((B9 k (A7 k a b).1 (A7 k a b).2.1).1), ?_, (by kernel_rfl)⟩
      unfold Jm
      rw [if_neg (fun q => by simp [q.1, q.2.1, q.2.2] at c4)]
    ·rintro y1 ⟨c, jc, rfl⟩
     refine Ab ?_
     refine A3 ?_
     refine Aa [] [1, 3, 15, 78] ?_
     refine A8 (p := c < 0) (by kernel_rfl) (fun c5 => ?_) (fun c5 => ?_)
     ·refine Ab ?_
      refine Ar ?_
      refine Bj 1 0 [] [3, 81] [] hk0 v0 c0 ?_
      refine S2 (s' := [(3, (.int .i64 o)), (81, (.int .i64 op)), (82, (.int .i64 (Go.bits .and .i64 op 4)))]) (.int .i64 (Go.bits .and .i64 op 4)) (by kernel_rfl) (Mv (.inl (by kernel_rfl)) (.inl (by kernel_rfl))) (by kernel_rfl) ?_
      refine Bj 3 2 [85] [84, 85] [] hk0 v0 c0 ?_
      refine Q1k (s' := [(84, (.bool (!decide ((Go.bits .and .i64 op 4) = 0)))), (85, (.cond (!(!decide ((Go.bits .and .i64 op 4) = 0))) (.int .i64 o))), (86, (.cond (!(!decide ((Go.bits .and .i64 op 4) = 0))) (.int .i64 (Go.bits .and .i64 o 1))))]) (q := !(!decide ((Go.bits .and .i64 op 4) = 0))) (.int .i64 (Go.bits .and .i64 o 1)) (by kernel_rfl) (fun cg => (Mv (.inr ⟨!(!decide ((Go.bits .and .i64 op 4) = 0)), by kernel_rfl, by first | exact cg | simp_all⟩) (.inl (by kernel_rfl)))) (by kernel_rfl) ?_
      refine A2 (CS := [(6, ((!(!decide ((Go.bits .and .i64 op 4) = 0))) = true → (!(!decide ((Go.bits .and .i64 op 4) = 0))) = true)), (7, ((!decide ((Go.bits .and .i64 op 4) = 0)) = false → (!(!decide ((Go.bits .and .i64 op 4) = 0))) = true))]) 6 [87] [10, 11] [] hk0 v0 (by refine cc _ ?_ <| cc _ ?_ c0 <;> simp) ?_
      refine Ag ?_
      refine RK wR [(.bool ((!decide ((Go.bits .and .i64 op 4) = 0)) || (!decide ((Go.bits .and .i64 o 1) = 0)))), (.int .i64 0)] ?_
      refine Same.of_eq ?_
      simp only [Aj]
      rw [show A0 k op a o b = (Fq (Fp k a b) op o, 0) from by unfold A0; rw [if_neg (by omega), if_neg (by omega), if_neg (by omega)]]
      rw [show Fp k a b = c from jc.symm]
      unfold Fq
      rw [if_pos (by omega)]
     ·refine Aa [] [1, 3, 89] ?_
      refine A8 (p := 0 < c) (by kernel_rfl) (fun c6 => ?_) (fun c6 => ?_)
      ·refine Ab ?_
       refine Ar ?_
       refine Bj 1 0 [] [3, 92] [] hk0 v0 c0 ?_
       refine S2 (s' := [(3, (.int .i64 o)), (92, (.int .i64 op)), (93, (.int .i64 (Go.bits .and .i64 op 1)))]) (.int .i64 (Go.bits .and .i64 op 1)) (by kernel_rfl) (Mv (.inl (by kernel_rfl)) (.inl (by kernel_rfl))) (by kernel_rfl) ?_
       refine Bj 3 2 [96] [95, 96] [] hk0 v0 c0 ?_
       refine Q1k (s' := [(95, (.bool (!decide ((Go.bits .and .i64 op 1) = 0)))), (96, (.cond (!(!decide ((Go.bits .and .i64 op 1) = 0))) (.int .i64 o))), (97, (.cond (!(!decide ((Go.bits .and .i64 op 1) = 0))) (.int .i64 (Go.bits .and .i64 o 4))))]) (q := !(!decide ((Go.bits .and .i64 op 1) = 0))) (.int .i64 (Go.bits .and .i64 o 4)) (by kernel_rfl) (fun cg => (Mv (.inr ⟨!(!decide ((Go.bits .and .i64 op 1) = 0)), by kernel_rfl, by first | exact cg | simp_all⟩) (.inl (by kernel_rfl)))) (by kernel_rfl) ?_
       refine A2 (CS := [(6, ((!(!decide ((Go.bits .and .i64 op 1) = 0))) = true → (!(!decide ((Go.bits .and .i64 op 1) = 0))) = true)), (7, ((!decide ((Go.bits .and .i64 op 1) = 0)) = false → (!(!decide ((Go.bits .and .i64 op 1) = 0))) = true))]) 6 [98] [10, 11] [] hk0 v0 (by refine cc _ ?_ <| cc _ ?_ c0 <;> simp) ?_
       refine Ag ?_
       refine RK wR [(.bool ((!decide ((Go.bits .and .i64 op 1) = 0)) || (!decide ((Go.bits .and .i64 o 4) = 0)))), (.int .i64 0)] ?_
       refine Same.of_eq ?_
       simp only [Aj]
       rw [show A0 k op a o b = (Fq (Fp k a b) op o, 0) from by unfold A0; rw [if_neg (by omega), if_neg (by omega), if_neg (by omega)]]
       rw [show Fp k a b = c from jc.symm]
       unfold Fq
       rw [if_neg (by omega), if_pos (by omega)]
      ·refine Ai ?_
       refine Ab ?_
       refine Ar ?_
       refine Bj 2 0 [] [100, 101] [] hk0 v0 c0 ?_
       refine S2 (s' := [(100, (.int .i64 op)), (101, (.int .i64 o)), (102, (.int .i64 (Go.bits .and .i64 op o)))]) (.int .i64 (Go.bits .and .i64 op o)) (by kernel_rfl) (Mv (.inl (by kernel_rfl)) (.inl (by kernel_rfl))) (by kernel_rfl) ?_
       refine A2 3 [] [10, 11] [] hk0 v0 c0 ?_
       refine Ag ?_
       refine RK wR [(.bool (!decide ((Go.bits .and .i64 op o) = 0))), (.int .i64 0)] ?_
       refine Same.of_eq ?_
       simp only [Aj]
       rw [show A0 k op a o b = (Fq (Fp k a b) op o, 0) from by unfold A0; rw [if_neg (by omega), if_neg (by omega), if_neg (by omega)]]
       rw [show Fp k a b = c from jc.symm]
       unfold Fq
       rw [if_neg (by omega), if_neg (by omega)]
theorem K0 : G2 A0 := fun k op a o b ha hb => Q5z k op a o b ha hb
end Sv
end Go.Proofs.YtlfjokcbkopfeaaGreatDoor
end
section
namespace Go.Proofs.YtlfjokcbkopfeaaGreatDoor
open Go Go.RowKit
namespace Sv
attribute [local irreducible] SW SO Bg
set_option maxHeartbeats 1000000
set_option maxRecDepth 100000
theorem Y0 : As Tryz.prog 34 := Ax Tryz.func34 (by kernel_rfl) rfl
theorem Q8l : As Tryz.prog 16 := Ax Tryz.func16 (by kernel_rfl) rfl
theorem Q9a : As Tryz.prog 12 := Ax Tryz.func12 (by kernel_rfl) rfl
def Ic : List Int → Prop
 | [] => True
 | x :: r => (∀ y ∈ r, x < y) ∧ Ic r
def Ks (k : Int) : Bool := decide (k = 1) || (decide (k = 5) || decide (k = 6))
theorem U6 (st : PoolT) (pl : List (Int × Int)) :
  FnV Tryz.prog 34 [(.fp (C0 st pl))] (.int .i64 ((pl.length : Int))) := by
 refine Ba [.tmp 2] Tryz.func34 rfl Tryz.ntmps34 rfl rfl (fun B F hF => ?_)
 refine Aa [] [0] ?_
 refine Aa [] [2] ?_
 refine Ag ?_
 refine RK wR [(.int .i64 ((pl.length : Int)))] ?_
 exact Same.of_eq (by first | rfl | (simp only [Aj]; simp_all))
theorem Q32 (d : DepT) :
  FnV Tryz.prog 16 [(.agg [(.int .i64 d.kind), (.str d.name), (.int .i64 d.op), (.str d.evr), (.row 5 d.args.length (depAt d.args))])] (.bool (Ks d.kind)) := by
 refine Ba [.tmp 2] Tryz.func16 rfl Tryz.ntmps16 rfl rfl (fun B F hF => ?_)
 refine Ae [] [1] [(1, 1)] hk0 v0 c0 ?_
 obtain ⟨b1, hb1⟩ : ∃ b, b = (decide (d.kind = 1)) := ⟨_, rfl⟩
 obtain ⟨b2, hb2⟩ : ∃ b, b = (b1 || (decide (d.kind = 5))) := ⟨_, rfl⟩
 refine Ae (CS := [(5, ((!b1) = true → (!b1) = true)), (6, ((!b1) = true → (!b1) = true)), (7, (b1 = false → (!b1) = true)), (10, ((!b2) = true → (!b2) = true)), (11, ((!b2) = true → (!b2) = true)), (12, (b2 = false → (!b2) = true))]) [7, 8, 9, 12, 13, 14] [2] [] hk0 (vk 4 6 (a := .bool (decide (d.kind = 1))) (b := .bool b1) (Imp.of_eq (by rw [hb1])) <| vk 9 11 (a := .bool (b1 || (decide (d.kind = 5)))) (b := .bool b2) (Imp.of_eq (by rw [hb2])) <| v0) (by refine cc _ ?_ <| cc _ ?_ <| cc _ ?_ <| cc _ ?_ <| cc _ ?_ <| cc _ ?_ c0 <;> simp) ?_
 refine Ag ?_
 refine RK wR [(.bool (b2 || (decide (d.kind = 6))))] ?_
 subst hb2 hb1
 exact Same.of_eq (by simp only [Aj]; unfold Ks; rw [Bool.or_assoc])
theorem Q39 (d : DepT) (hd : d.size ≤ 4194304) :
  FnV Tryz.prog 12 [(.agg [(.int .i64 d.kind), (.str d.name), (.int .i64 d.op), (.str d.evr), (.row 5 d.args.length (depAt d.args))])] (.int .i64 (Bq d)) := by
 refine Ba [.tmp 2] Tryz.func12 rfl Tryz.ntmps12 rfl rfl (fun B F hF => ?_)
 refine Ae [] [1] [(1, 1)] hk0 v0 c0 ?_
 refine Ae [] [2] [] (hk 1 R0 (Uu d hd) <| hk0) v0 c0 ?_
 refine Ag ?_
 refine RK wR [(.int .i64 (Bq d))] ?_
 exact Same.of_eq (by first | rfl | (simp only [Aj]; simp_all))
end Sv
end Go.Proofs.YtlfjokcbkopfeaaGreatDoor
end
section
namespace Go.Proofs.YtlfjokcbkopfeaaGreatDoor
open Go Go.RowKit
namespace Sv
def Id (st : PoolT) (pl : List (Int × Int)) : Prop := pl.length = st.all.length ∧ ∀ i, i < st.all.length → 0 ≤ (nth pl i).1 ∧ (nth pl i).1 < st.repos.length ∧ 0 ≤ (nth pl i).2 ∧ (nth pl i).2 < (nth st.repos (nth pl i).1.toNat).pkgs.length ∧
  nth (nth st.repos (nth pl i).1.toNat).pkgs (nth pl i).2.toNat = (nth st.all i).1 ∧ (nth pl i).1 = (nth st.all i).2
def Q1w (l : List RepoT) (st : PoolT) : Prop := ∀ q ∈ st.all, ∃ r ∈ l, q.1 ∈ r.pkgs
theorem Qy {α : Type} [Inhabited α] {l m : List α} {i : Nat} (h : i < l.length) : nth (l ++ m) i = nth l i := by
  simp only [nth]; rw [List.getElem?_append_left h]
theorem Qx {α : Type} [Inhabited α] {l m : List α} {i : Nat} (h : l.length ≤ i) : nth (l ++ m) i = nth m (i - l.length) := by
  simp only [nth]; rw [List.getElem?_append_right h]
theorem Z5 {k : Int} {l : List RepoT} {r : RepoT} : Ad k (l ++ [r]) = (Bk (Ad k l).1 r, D1 (Ad k l).2 (Ad k l).1 r) := by
  unfold Ad; rw [List.foldl_append]; rfl
theorem T5 {α : Type} {C : List α → Prop} (h0 : C []) (h : ∀ l a, C l → C (l ++ [a])) (l : List α) : C l := by
  rw [← List.reverse_reverse l]
  induction l.reverse with
  | nil => exact h0
  | cons a r ih => rw [List.reverse_cons]; exact h _ _ ih
theorem X0m (k : Int) : ∀ l : List RepoT, Q1w l (Ad k l).1 := by
  refine T5 (C := fun l => Q1w l (Ad k l).1) (fun q hq => by cases hq) fun l r ih => ?_
  rw [Z5]
  intro q hq
  have old : q ∈ (Ad k l).1.all → ∃ r' ∈ l ++ [r], q.1 ∈ r'.pkgs := fun h => by
    obtain ⟨r', h1, h2⟩ := ih q h
    exact ⟨r', List.mem_append_left _ h1, h2⟩
  unfold Bk at hq
  split at hq
  · simp only [Ay, List.take_length] at hq
    rcases List.mem_append.1 hq with h | h
    · exact old h
    · obtain ⟨p, hp, rfl⟩ := List.mem_map.1 h
      exact ⟨r, by simp, hp⟩
  · exact old hq
theorem Z7 {k : Int} {l : List RepoT} (h : ∀ i, i < l.length → (nth l i).size ≤ 4194304) : IdxOk (Ad k l).1 := by
  refine ⟨(Pa k l).2.1, fun i hi => ?_⟩
  obtain ⟨r, hr, hp⟩ := X0m k l (nth (Ad k l).1.all i) (by rw [Gd hi]; exact List.getElem_mem hi)
  obtain ⟨a, ha, rfl⟩ := List.getElem_of_mem hr
  obtain ⟨b, hb, e⟩ := List.getElem_of_mem hp
  have h1 := RepoT.size_pkg hb
  have h2 := h a ha
  rw [Gd ha] at h2
  rw [Gd hb, e] at h1
  omega
theorem X0n (k : Int) : ∀ l : List RepoT, Id (Ad k l).1 (Ad k l).2 := by
  refine T5 (C := fun l => Id (Ad k l).1 (Ad k l).2) ⟨rfl, fun i hi => by simp [Ad] at hi⟩ fun l r ih => ?_
  rw [Z5]
  generalize (Ad k l).1 = st at ih
  generalize (Ad k l).2 = pl at ih
  show Id (Bk st r) (D1 pl st r)
  by_cases he : B2 st r = 0
  · have e1 : Bk st r = ⟨st.kind, st.repos ++ [r], Ay st r r.pkgs.length⟩ := if_pos he
    have e2 : D1 pl st r = Cr pl st r r.pkgs.length := if_pos he
    rw [e1, e2]
    have hl : (Ay st r r.pkgs.length).length = st.all.length + r.pkgs.length := by simp [Ay]
    have hl2 : (Cr pl st r r.pkgs.length).length = pl.length + r.pkgs.length := by simp [Cr]
    refine ⟨by show (Cr pl st r r.pkgs.length).length = (Ay st r r.pkgs.length).length; rw [hl, hl2, ih.1], fun i hi => ?_⟩
    have hi : i < (Ay st r r.pkgs.length).length := hi
    rw [hl] at hi
    show 0 ≤ (nth (Cr pl st r r.pkgs.length) i).1 ∧ (nth (Cr pl st r r.pkgs.length) i).1 < ((st.repos ++ [r]).length : Int) ∧ 0 ≤ (nth (Cr pl st r r.pkgs.length) i).2 ∧ (nth (Cr pl st r r.pkgs.length) i).2 < ((nth (st.repos ++ [r]) (nth (Cr pl st r r.pkgs.length) i).1.toNat).pkgs.length : Int) ∧ nth (nth (st.repos ++ [r]) (nth (Cr pl st r r.pkgs.length) i).1.toNat).pkgs (nth (Cr pl st r r.pkgs.length) i).2.toNat = (nth (Ay st r r.pkgs.length) i).1 ∧ (nth (Cr pl st r r.pkgs.length) i).1 = (nth (Ay st r r.pkgs.length) i).2
    unfold Cr Ay
    by_cases h : i < st.all.length
    · have k := ih.2 i h
      rw [Qy (l := pl) (by rw [ih.1]; exact h), Qy (l := st.all) h, Qy (l := st.repos) (by omega)]
      exact ⟨k.1, by rw [List.length_append]; omega, k.2.2.1, k.2.2.2.1, k.2.2.2.2.1, k.2.2.2.2.2⟩
    · obtain ⟨j, rfl⟩ : ∃ j, i = st.all.length + j := ⟨i - st.all.length, by omega⟩
      have hj : j < r.pkgs.length := by omega
      rw [Qx (l := pl) (by rw [ih.1]; omega), Qx (l := st.all) (by omega), show st.all.length + j - pl.length = j by rw [ih.1]; omega, show st.all.length + j - st.all.length = j by omega, List.take_length]
      have a1 : nth ((List.range r.pkgs.length).map fun (k : Nat) => ((st.repos.length : Int), (k : Int))) j = ((st.repos.length : Int), (j : Int)) := by simp [nth, hj]
      have a2 : nth (r.pkgs.map fun p => (p, (st.repos.length : Int))) j = (nth r.pkgs j, (st.repos.length : Int)) := by simp [nth, hj]
      rw [a1, a2]
      have a3 : nth (st.repos ++ [r]) ((st.repos.length : Int)).toNat = r := by rw [Qx (by simp)]; simp [nth]
      refine ⟨Int.natCast_nonneg _, by rw [List.length_append, List.length_singleton]; show (st.repos.length : Int) < _; omega, Int.natCast_nonneg _, ?_, ?_, rfl⟩
      · show (j : Int) < ((nth (st.repos ++ [r]) ((st.repos.length : Int)).toNat).pkgs.length : Int)
        rw [a3]; omega
      · show nth (nth (st.repos ++ [r]) ((st.repos.length : Int)).toNat).pkgs ((j : Int)).toNat = nth r.pkgs j
        rw [a3]; rfl
  · have e1 : Bk st r = st := if_neg he
    have e2 : D1 pl st r = pl := if_neg he
    rw [e1, e2]; exact ih
end Sv
end Go.Proofs.YtlfjokcbkopfeaaGreatDoor
end
section
namespace Go.Proofs.YtlfjokcbkopfeaaGreatDoor
open Go Go.RowKit
namespace Sv
attribute [local irreducible] SW SO Bg
set_option maxHeartbeats 400000
set_option maxRecDepth 100000
theorem Q77 : As Tryz.prog 37 := Ax Tryz.func37 (by kernel_rfl) rfl
theorem Q7v : As Tryz.prog 8 := Ax Tryz.func8 (by kernel_rfl) rfl
def exLib : DepT := .mk 1 [108, 105, 98] 0 [] []
def exTwo : DepT := .mk 1 [108, 105, 98] 2 [50] []
def exQ : DepT := .mk 1 [108, 105, 98] 6 [49] []
def exA : PkgT := ⟨[97], [49, 45, 49], [110, 111, 97, 114, 99, 104], [], [exTwo], [], [], [], [], [], [], []⟩
def exB : PkgT := ⟨[98], [49, 45, 49], [110, 111, 97, 114, 99, 104], [], [exLib], [], [], [], [], [], [], [[47, 98, 105, 110, 47, 98]]⟩
def exC : PkgT := ⟨[97], [50, 45, 49], [110, 111, 97, 114, 99, 104], [], [], [], [], [], [], [], [], []⟩
def exR : RepoT := ⟨[109, 97, 105, 110], 0, false, [exA, exB, exC]⟩
def exL : List UInt8 := [40, 98, 32, 105, 102, 32, 108, 105, 98, 32, 62, 32, 49, 32, 101, 108, 115, 101, 32, 97, 41]
def exD : DepT := .mk 4 [] 0 [] [.mk 1 [98] 0 [] [], .mk 1 [108, 105, 98] 4 [49] [], .mk 1 [97] 0 [] []]
theorem Ye : exD = .mk 4 [] 0 [] [.mk 1 [98] 0 [] [], .mk 1 [108, 105, 98] 4 [49] [], .mk 1 [97] 0 [] []] := rfl
def exS : PoolT := (Ad (Ac 1) [exR]).1
def exP : List (Int × Int) := (Ad (Ac 1) [exR]).2
theorem exS_ok : IdxOk exS := Z7 fun i hi => by
 have : i = 0 := by simpa using hi
 subst this
 decide
theorem Q7k : Cd A0 exS exD [2] = (true, 0) := by kernel_rfl
theorem Q7l : Cd A0 exS exD [0] = (false, 0) := by kernel_rfl
theorem Q7j : Dl A0 exS exQ = ([0], 0) := by kernel_rfl
theorem Q7m : FnV Tryz.prog 9 [.int .i64 1, Ah 4 A5 [exR]] (.tup [.fp (D7 exS), .fp (C0 exS exP)]) := X2y 1 [exR] (by decide) fun i hi => by
 have : i = 0 := by simpa using hi
 subst this
 decide
theorem Q7n : FnV Tryz.prog 38 [.str exL] (.tup [Az exD, .int .i64 0]) := X2z
theorem Q7i  :
  FnV Tryz.prog 37 [] (.agg [(.str exR.name), (.int .i64 exR.prio), (.bool exR.inst), (Ah 12 Ak exR.pkgs)]) := by
 refine Ba [.cell 0 41] Tryz.func37 rfl Tryz.ntmps37 rfl rfl (fun B F hF => ?_)
 refine Aa [] [0] ?_
 refine Ae [] [0, 1] [] hk0 (vk 2 5 (a := (.agg [(.int .i64 1), (.str ([108, 105, 98])), (.int .i64 0), (.str []), .nils])) (b := (.agg [(.int .i64 exLib.kind), (.str exLib.name), (.int .i64 exLib.op), (.str exLib.evr), (.row 5 exLib.args.length (depAt exLib.args))])) ((Imp.aggs (ImpL.cons Imp.refl (ImpL.cons Imp.refl (ImpL.cons Imp.refl (ImpL.cons Imp.refl (ImpL.cons (Imp.nil.trans (Jz [])) ImpL.nil))))))) <| v0) c0 ?_
 refine Ae [] [0, 1, 2] [(0, 1)] hk0 (vk 2 6 (a := (.agg [(.int .i64 1), (.str ([108, 105, 98])), (.int .i64 2), (.str ([50])), .nils])) (b := (.agg [(.int .i64 exTwo.kind), (.str exTwo.name), (.int .i64 exTwo.op), (.str exTwo.evr), (.row 5 exTwo.args.length (depAt exTwo.args))])) ((Imp.aggs (ImpL.cons Imp.refl (ImpL.cons Imp.refl (ImpL.cons Imp.refl (ImpL.cons Imp.refl (ImpL.cons (Imp.nil.trans (Jz [])) ImpL.nil))))))) <| v0) c0 ?_
 refine Ae [] [0, 1, 3] [(0, 2), (2, 8)] hk0 (vk 2 8 (b := (Ah 5 Az [exTwo])) (Imp.list (f := Az) rfl) <| vk 4 9 (a := (.agg [(.str ([97])), (.str ([49, 45, 49])), (.str ([110, 111, 97, 114, 99, 104])), (.str []), (Ah 5 Az [exTwo]), .nils, .nils, .nils, .nils, .nils, .nils, .nils])) (b := (Ak exA)) ((Imp.aggs (ImpL.cons Imp.refl (ImpL.cons Imp.refl (ImpL.cons Imp.refl (ImpL.cons Imp.refl (ImpL.cons Imp.refl (ImpL.cons Imp.nil (ImpL.cons Imp.nil (ImpL.cons Imp.nil (ImpL.cons Imp.nil (ImpL.cons Imp.nil (ImpL.cons Imp.nil (ImpL.cons Imp.nil ImpL.nil)))))))))))))) <| v0) c0 ?_
 refine Ae [] [0, 3, 4] [(0, 3), (3, 11), (3, 12)] hk0 (vk 3 11 (b := (Ah 5 Az [exLib])) (Imp.list (f := Az) rfl) <| vk 3 12 (b := (Ch ([[47, 98, 105, 110, 47, 98]]))) (Imp.list (f := AV.str) rfl) <| vk 5 13 (a := (.agg [(.str ([98])), (.str ([49, 45, 49])), (.str ([110, 111, 97, 114, 99, 104])), (.str []), (Ah 5 Az [exLib]), .nils, .nils, .nils, .nils, .nils, .nils, (Ch ([[47, 98, 105, 110, 47, 98]]))])) (b := (Ak exB)) ((Imp.aggs (ImpL.cons Imp.refl (ImpL.cons Imp.refl (ImpL.cons Imp.refl (ImpL.cons Imp.refl (ImpL.cons Imp.refl (ImpL.cons Imp.nil (ImpL.cons Imp.nil (ImpL.cons Imp.nil (ImpL.cons Imp.nil (ImpL.cons Imp.nil (ImpL.cons Imp.nil (ImpL.cons Imp.refl ImpL.nil)))))))))))))) <| v0) c0 ?_
 refine Ae [] [0] [(0, 4), (4, 17)] hk0 (vk 3 16 (a := (.agg [(.str ([97])), (.str ([50, 45, 49])), (.str ([110, 111, 97, 114, 99, 104])), (.str []), .nils, .nils, .nils, .nils, .nils, .nils, .nils, .nils])) (b := (Ak exC)) ((Imp.aggs (ImpL.cons Imp.refl (ImpL.cons Imp.refl (ImpL.cons Imp.refl (ImpL.cons Imp.refl (ImpL.cons Imp.nil (ImpL.cons Imp.nil (ImpL.cons Imp.nil (ImpL.cons Imp.nil (ImpL.cons Imp.nil (ImpL.cons Imp.nil (ImpL.cons Imp.nil (ImpL.cons Imp.nil ImpL.nil)))))))))))))) <| vk 4 17 (b := (Ah 12 Ak [exA, exB, exC])) (Imp.list (f := Ak) rfl) <| v0) c0 ?_
 refine Ag ?_
 refine RK wR [(.agg [(.str ([109, 97, 105, 110])), (.int .i64 0), (.bool false), (Ah 12 Ak [exA, exB, exC])])] ?_
 exact Same.of_eq (by first | rfl | (simp only [Aj]; simp_all))
theorem X0t  :
  FnV Tryz.prog 8 [] (.bool true) := by
 refine Ba [.tmp 0] Tryz.func8 rfl Tryz.ntmps8 rfl rfl (fun B F hF => ?_)
 refine Aa [] [] ?_
 refine Ae [] [1] [(2, 14)] (hk 0 Q77 Q7i <| hk 2 Yn Q7m <| hk0) (vk 2 14 (b := (Ah 4 A5 [exR])) (Imp.list (f := A5) rfl) <| v0) c0 ?_
 refine Ae [] [1, 3] [] (hk 1 Zm (Q4f exS exS_ok.1 exS_ok.2) <| hk0) v0 c0 ?_
 refine Ab ?_
 refine Aa [] [3, 25] ?_
 refine Db (by kernel_rfl) ?_
 refine Ai ?_
 refine Ae [] [3, 4, 5] [(6, 4)] (hk 0 Q76 Q7n <| hk0) v0 c0 ?_
 refine Ae [] [3, 4, 5, 6, 7] [(3, 33)] (hk 3 R5 ((S8 A0 K0 exS exS_ok exD [2] (by rw [Ye]; decide) (by decide)).to (Same.of_eq (by rw [Q7k]))) <| hk0) (vk 3 33 (b := (Bu [2])) (Imp.list (f := AV.int .i64) rfl) <| v0) c0 ?_
 refine Ae [] [3, 5, 6, 7, 8, 9] [(3, 40)] (hk 3 R5 ((S8 A0 K0 exS exS_ok exD [0] (by rw [Ye]; decide) (by decide)).to (Same.of_eq (by rw [Q7l]))) <| hk0) (vk 3 40 (b := (Bu [0])) (Imp.list (f := AV.int .i64) rfl) <| v0) c0 ?_
 refine Ae [] [5, 6, 7, 8, 9, 10, 11] [] (hk 2 Zh ((Q04 A0 K0 exS exS_ok exQ (by decide)).to (Same.of_eq (by rw [Q7j]))) <| hk0) (vk 2 46 (a := (.agg [(.int .i64 1), (.str ([108, 105, 98])), (.int .i64 6), (.str ([49])), .nils])) (b := (.agg [(.int .i64 exQ.kind), (.str exQ.name), (.int .i64 exQ.op), (.str exQ.evr), (.row 5 exQ.args.length (depAt exQ.args))])) ((Imp.aggs (ImpL.cons Imp.refl (ImpL.cons Imp.refl (ImpL.cons Imp.refl (ImpL.cons Imp.refl (ImpL.cons (Imp.nil.trans (Jz [])) ImpL.nil))))))) <| v0) c0 ?_
 obtain ⟨b1, hb1⟩ : ∃ b, b = (decide (([0].length : Int) = 1)) := ⟨_, rfl⟩
 obtain ⟨b2, hb2⟩ : ∃ b, b = (b1 && (decide ((nth [0] 0) = 0))) := ⟨_, rfl⟩
 refine Ae (CS := [(24, (b1 = true → (b1 = true) ∧ (0 ≤ (0 : Int) ∧ 0 < [0].length))), (25, (b1 = true → b1 = true)), (26, (b1 = true → b1 = true)), (27, (b1 = true → b1 = true)), (30, (b2 = true → b2 = true)), (31, (b2 = true → b2 = true))]) [73, 74, 75, 76, 79, 80] [0] [] hk0 (vk 23 72 (a := .bool (decide (([0].length : Int) = 1))) (b := .bool b1) (Imp.of_eq (by rw [hb1])) <| vk 29 78 (a := .bool (b1 && (decide ((nth [0] 0) = 0)))) (b := .bool b2) (Imp.of_eq (by rw [hb2])) <| v0) (by refine cc _ ?_ <| cc _ ?_ <| cc _ ?_ <| cc _ ?_ <| cc _ ?_ <| cc _ ?_ c0 <;> simp) ?_
 refine Ag ?_
 refine RK wR [(.bool (b2 && true))] ?_
 subst hb2 hb1
 exact Same.of_eq (by first | rfl | (simp only [Aj]; simp_all))
end Sv
end Go.Proofs.YtlfjokcbkopfeaaGreatDoor
end
section
namespace Go.Proofs.YtlfjokcbkopfeaaGreatDoor
open Go Go.RowKit
namespace Sv
abbrev Q1u := Int → Int → List UInt8 → Int → List UInt8 → Bool × Int
theorem X7 {k : Int} : ∀ {l : List DepT} {i : Nat}, argsForm k l = true → i < l.length → Ca (nth l i) = true
  | [], i, _, hi => by simp at hi
  | d :: r, i, h, hi => by
    unfold argsForm at h
    simp only [Bool.and_eq_true] at h
    cases i with
    | zero => exact h.2.1
    | succ i => exact X7 (l := r) h.2.2 (by simpa using hi)
theorem X4 {k op : Int} {nm ev : List UInt8} {args : List DepT} (h : Ca (.mk k nm op ev args) = true) (hk : ¬ k = 1) : 2 ≤ args.length ∧ argsForm k args = true ∧ 2 ≤ k ∧ k ≤ 6 := by
  unfold Ca at h
  rw [if_neg hk] at h
  simp only [Bool.and_eq_true, Bool.not_eq_true', Fa, decide_eq_false_iff_not, not_or] at h
  exact ⟨by omega, h.2, by omega, by omega⟩
theorem Q64 {op : Int} {nm ev : List UInt8} {args : List DepT} (h : Ca (.mk 1 nm op ev args) = true) : args = [] := by
  unfold Ca at h
  rw [if_pos rfl] at h
  by_cases q : Bf nm = true ∧ 0 ≤ op ∧ op ≤ 7 ∧ args.length = 0
  · exact List.length_eq_zero_iff.1 q.2.2.2
  · rw [Rm q] at h; cases h
theorem X2 {d : DepT} (h : Ca d = true) {i : Nat} (hi : i < d.args.length) : Ca (nth d.args i) = true := by
  obtain ⟨k, nm, op, ev, args⟩ := d
  by_cases hk : k = 1
  · subst hk
    have e := Q64 h
    have hi : i < args.length := hi
    rw [e] at hi; simp at hi
  · exact X7 (X4 h hk).2.1 hi
theorem X5 {d : DepT} (h : Ca d = true) (hk : ¬ d.kind = 1) : 2 ≤ d.args.length := by
  obtain ⟨k, nm, op, ev, args⟩ := d
  exact (X4 h hk).1
section
variable {m : Q1u} {st : PoolT} {s : List Int}
theorem Q4 {d : DepT} (h : Bq d = 0) (hs : ∀ x ∈ s, 0 ≤ x ∧ x < st.all.length) : Cd m st d s = (B1 m st s d.size d, 0) := by
  have : (s.any fun id => decide (id < 0) || decide ((st.all.length : Int) ≤ id)) = false := by
    rw [List.any_eq_false]
    intro x hx
    have := hs x hx
    simp only [Bool.or_eq_true, decide_eq_true_eq]; omega
  unfold Cd
  rw [if_pos h, this]
  rfl
end
section
variable {m : Q1u} {st : PoolT} {s : List Int}
end
end Sv
end Go.Proofs.YtlfjokcbkopfeaaGreatDoor
end
section
namespace Go.Proofs.YtlfjokcbkopfeaaGreatDoor
open Go Go.RowKit
set_option linter.unusedSimpArgs false
set_option linter.unusedVariables false
namespace Sv
end Sv
end Go.Proofs.YtlfjokcbkopfeaaGreatDoor
end
section
namespace Go.Proofs.YtlfjokcbkopfeaaGreatDoor
open Go Go.RowKit
set_option linter.unusedSimpArgs false
set_option linter.unusedVariables false
namespace Sv
end Sv
end Go.Proofs.YtlfjokcbkopfeaaGreatDoor
end
section
namespace Go.Proofs.YtlfjokcbkopfeaaGreatDoor
open Go Go.RowKit
namespace Sv
attribute [local irreducible] SW SO Bg
set_option maxHeartbeats 400000
set_option maxRecDepth 100000
end Sv
end Go.Proofs.YtlfjokcbkopfeaaGreatDoor
end
section
namespace Go.Proofs.YtlfjokcbkopfeaaGreatDoor
open Go Go.RowKit
namespace Sv
theorem Uo : ∀ {a b : List Int}, Ic a → Ic b → (∀ x, x ∈ a ↔ x ∈ b) → a = b
  | [], [], _, _, _ => rfl
  | [], y :: b, _, _, h => by have := (h y).2 (by simp); cases this
  | x :: a, [], _, _, h => by have := (h x).1 (by simp); cases this
  | x :: a, y :: b, ha, hb, h => by
    have e : x = y := by
      rcases List.mem_cons.1 ((h x).1 (by simp)) with e | e
      · exact e
      · rcases List.mem_cons.1 ((h y).2 (by simp)) with e' | e'
        · exact e'.symm
        · have h1 := hb.1 x e
          have h2 := ha.1 y e'
          omega
    subst e
    rw [Uo ha.2 hb.2 fun z => ?_]
    constructor
    · intro hz
      rcases List.mem_cons.1 ((h z).1 (by simp [hz])) with e | e
      · subst e; have := ha.1 z hz; omega
      · exact e
    · intro hz
      rcases List.mem_cons.1 ((h z).2 (by simp [hz])) with e | e
      · subst e; have := hb.1 z hz; omega
      · exact e
theorem Un {x : Int} : ∀ {l : List Int}, Ic l → (∀ y ∈ l, y < x) → Ic (l ++ [x])
  | [], _, _ => ⟨by simp, trivial⟩
  | z :: l, h, k => ⟨fun y hy => by
      rcases List.mem_append.1 hy with hy | hy
      · exact h.1 y hy
      · rw [List.mem_singleton] at hy; subst hy; exact k z (by simp), Un h.2 fun y hy => k y (by simp [hy])⟩
theorem Q95 (d : Array Int) (h : ∀ i, i + 1 < d.size → d[i]! ≤ d[i + 1]!) : ∀ m, m ≤ d.size → Ic (Lib.compactUpTo d m) ∧ (∀ x, x ∈ Lib.compactUpTo d m ↔ ∃ i, i < m ∧ x = d[i]!) ∧ ∀ x ∈ Lib.compactUpTo d m, x ≤ d[m - 1]! := by
  intro m
  induction m with
  | zero => intro _; exact ⟨trivial, fun x => by simp [Lib.compactUpTo], fun x hx => by simp [Lib.compactUpTo] at hx⟩
  | succ m ih =>
    intro hm
    obtain ⟨i1, i2, i3⟩ := ih (by omega)
    have mono : ∀ x ∈ Lib.compactUpTo d m, x ≤ d[m]! := fun x hx => by
      have h1 := i3 x hx
      by_cases h0 : m = 0
      · subst h0; simp [Lib.compactUpTo] at hx
      · have := h (m - 1) (by omega)
        rw [show m - 1 + 1 = m by omega] at this; omega
    rw [Lib.compactUpTo_succ]
    by_cases hk : Lib.keeps d m = true
    · rw [if_pos hk]
      refine ⟨Un i1 fun y hy => ?_, fun x => ?_, fun x hx => ?_⟩
      · have h1 := mono y hy
        have h2 := i3 y hy
        by_cases h0 : m = 0
        · subst h0; simp [Lib.compactUpTo] at hy
        · have h3 := h (m - 1) (by omega)
          rw [show m - 1 + 1 = m by omega] at h3
          have h4 : d[m]! ≠ d[m - 1]! := by
            simp only [Lib.keeps, decide_eq_true_eq] at hk
            rcases hk with hk | hk
            · exact absurd hk h0
            · exact hk
          omega
      · rw [List.mem_append, i2, List.mem_singleton]
        constructor
        · rintro (⟨i, hi, rfl⟩ | rfl)
          · exact ⟨i, by omega, rfl⟩
          · exact ⟨m, by omega, rfl⟩
        · rintro ⟨i, hi, rfl⟩
          by_cases e : i = m
          · subst e; exact .inr rfl
          · exact .inl ⟨i, by omega, rfl⟩
      · rw [Nat.add_sub_cancel]
        rcases List.mem_append.1 hx with hx | hx
        · exact mono x hx
        · rw [List.mem_singleton] at hx; subst hx; exact Int.le_refl _
    · rw [if_neg hk, List.append_nil]
      have hk' : ¬ m = 0 ∧ d[m]! = d[m - 1]! := by
        simp only [Lib.keeps, decide_eq_true_eq, not_or, ne_eq, Decidable.not_not] at hk
        exact hk
      refine ⟨i1, fun x => ?_, fun x hx => ?_⟩
      · rw [i2]
        constructor
        · rintro ⟨i, hi, rfl⟩
          exact ⟨i, by omega, rfl⟩
        · rintro ⟨i, hi, rfl⟩
          by_cases e : i = m
          · subst e; exact ⟨i - 1, by omega, hk'.2⟩
          · exact ⟨i, by omega, rfl⟩
      · rw [Nat.add_sub_cancel]; exact mono x hx
end Sv
end Go.Proofs.YtlfjokcbkopfeaaGreatDoor
end
section
namespace Go.Proofs.YtlfjokcbkopfeaaGreatDoor
open Go Go.RowKit
namespace Sv
attribute [local irreducible] SW SO Bg
set_option maxHeartbeats 1000000
set_option maxRecDepth 100000
end Sv
end Go.Proofs.YtlfjokcbkopfeaaGreatDoor
end
section
namespace Go.Proofs.YtlfjokcbkopfeaaGreatDoor
open Go Go.RowKit
namespace Sv
attribute [local irreducible] SW SO Bg
set_option maxHeartbeats 400000
set_option maxRecDepth 100000
theorem Zc : As Tryz.prog 17 := Ax Tryz.func17 (by kernel_rfl) rfl
theorem Q25 {a b : List Int} (hl : a.length = b.length) (h : ∀ j, j < a.length → nth a j = nth b j) : decide (a = b) = true := decide_eq_true (List.ext_getElem hl fun j h1 h2 => by
 have := h j h1
 rwa [Gd h1, Gd h2] at this)
theorem Q26 {a b : List Int} {i : Nat} (h : ¬ nth a i = nth b i) : decide (a = b) = false := decide_eq_false fun e => h (by rw [e])
theorem Q27 {a b : List Int} (h : ¬ a.length = b.length) : decide (a = b) = false := decide_eq_false fun e => h (by rw [e])
theorem U4 (a b : List Int) (ha : a.length ≤ 4611686018427) :
  FnV Tryz.prog 17 [(Bu a), (Bu b)] (.bool (decide (a = b))) := by
 refine Ba [.tmp 4] Tryz.func17 rfl Tryz.ntmps17 rfl rfl (fun B F hF => ?_)
 refine Aa [] [0, 1] ?_
 refine Ab ?_
 refine Aa [] [0, 1, 10] ?_
 refine Cj (p := (a.length : Int) = (b.length : Int)) (by kernel_rfl) (fun c1 => ?_) (fun c1 => ?_)
 ·refine Aa [] [4] ?_
  refine Ag ?_
  refine RK wR [(.bool false)] ?_
  exact Same.of_eq (by rw [Q27 (by omega)]; rfl)
 ·refine Ai ?_
  refine Ab ?_
  refine Aa [] [0, 1, 5] ?_
  refine A3 ?_
  refine Bs (fun g y => ∃ (i : Nat), i ≤ a.length ∧ (∀ j, j < i → nth a j = nth b j) ∧ y = ⟨[(0, (Bu a)), (1, (Bu b)), (5, (.int .i64 ((i : Int))))], [], 0⟩ ∧ g = a.length - i) [0, 1, 5] 0 _ (by omega) ⟨0, (by omega), (by exact fun j hj => by omega), (by kernel_rfl), rfl⟩ ?_
  rintro g1 y1 ⟨i, f1_1, f1_2, rfl, rfl⟩
  refine Ab ?_
  refine Aa [] [0, 1, 5, 14] ?_
  refine A8 (p := (i : Int) < (a.length : Int)) (by kernel_rfl) (fun c2 => ?_) (fun c2 => ?_)
  ·refine Ai ?_
   refine Ab ?_
   refine A3 ?_
   refine Cg (CS := [(2, (0 ≤ (i : Int) ∧ i < a.length)), (6, (0 ≤ (i : Int) ∧ i < b.length))]) [] [0, 1, 5, 25] [] hk0 v0 (by refine cc _ ?_ <| cc _ ?_ c0 <;> omega) ?_
   refine Cj (p := (nth a i) = (nth b i)) (by kernel_rfl) (fun c3 => ?_) (fun c3 => ?_)
   ·refine Aa [] [4] ?_
    refine Ag ?_
    refine RK wR [(.bool false)] ?_
    exact Same.of_eq (by rw [Q26 (i := i) (by simp_all)]; rfl)
   ·refine Ai ?_
    refine Ar ?_
    refine A2 0 [] [0, 1, 5] [] hk0 v0 (cc 1 (p := (-9223372036854775808 ≤ (i : Int) + 1 ∧ (i : Int) + 1 ≤ 9223372036854775807)) (by omega) <| c0) ?_
    refine ⟨by kernel_rfl, _, ?_, i + 1, ?_, ?_, (by kernel_rfl), rfl⟩
    ·omega
    ·omega
    ·intro j hj
     by_cases h : j = i
     ·subst h; simp_all
     ·exact f1_2 j (by omega)
  ·refine Bl ?_
   refine Aa [] [4] ?_
   refine Ag ?_
   refine RK wR [(.bool true)] ?_
   exact Same.of_eq (by rw [Q25 (by omega) (fun j hj => f1_2 j (by omega))]; rfl)
end Sv
end Go.Proofs.YtlfjokcbkopfeaaGreatDoor
end
section
namespace Go.Proofs.YtlfjokcbkopfeaaGreatDoor
open Go Go.RowKit
namespace Sv
attribute [local irreducible] SW SO Bg
set_option maxHeartbeats 1000000
set_option maxRecDepth 100000
end Sv
end Go.Proofs.YtlfjokcbkopfeaaGreatDoor
end
section
namespace Go.Proofs.YtlfjokcbkopfeaaGreatDoor
open Go Go.RowKit
namespace Sv
abbrev X10 := Int × Int × Int
section
variable {f : List Int → List Int → Int → X10} {a b : List Int}
end
end Sv
end Go.Proofs.YtlfjokcbkopfeaaGreatDoor
end
section
namespace Go.Proofs.YtlfjokcbkopfeaaGreatDoor
open Go Go.RowKit
namespace Sv
attribute [local irreducible] SW SO Bg
set_option maxHeartbeats 1000000
set_option maxRecDepth 100000
theorem Oy : As Tryz.prog 203 := Ax Tryz.func203 (by kernel_rfl) rfl
theorem Y4 : As Tryz.prog 218 := Ax Tryz.func218 (by kernel_rfl) rfl
theorem R1 : As Tryz.prog 200 := Ax Tryz.func200 (by kernel_rfl) rfl
theorem Y1 : As Tryz.prog 222 := Ax Tryz.func222 (by kernel_rfl) rfl
theorem Ov : As Tryz.prog 221 := Ax Tryz.func221 (by kernel_rfl) rfl
theorem Y2 : As Tryz.prog 220 := Ax Tryz.func220 (by kernel_rfl) rfl
theorem Y3 : As Tryz.prog 219 := Ax Tryz.func219 (by kernel_rfl) rfl
theorem O7 (x y : Int) : Co (x - y) 0 = Co x y := by
 unfold Co
 repeat' split
 all_goals omega
theorem Nc : ∀ a b : List UInt8, Lib.compareBytes a b = if Op.bytesLess a b = true then -1 else if Op.bytesLess b a = true then 1 else 0
 | [], [] => rfl
 | [], _ :: _ => rfl
 | _ :: _, [] => rfl
 | a :: r, b :: s => by
  unfold Lib.compareBytes Op.bytesLess
  rw [Nc r s]
  by_cases h1 : a < b
  ·simp [h1]
  ·by_cases h2 : b < a
   ·have : ¬ a = b := fun e => by subst e; exact UInt8.lt_irrefl _ h2
    simp [h1, h2, this]
   ·have : a = b := UInt8.le_antisymm (UInt8.not_lt.1 h2) (UInt8.not_lt.1 h1)
    subst this
    simp [h1]
theorem Tv : ∀ {a b : List UInt8}, Op.bytesLess a b = false → (!(Op.bytesLess a b || F8 a b)) = Op.bytesLess b a := by
 intro a b h
 rw [h, Bool.false_or, P0]
 induction a generalizing b with
 | nil => cases b <;> simp_all [Op.bytesLess]
 | cons x r ih =>
  cases b with
  | nil => simp [Op.bytesLess]
  | cons y s =>
   unfold Op.bytesLess at h ⊢
   simp only [Bool.or_eq_false_iff, decide_eq_false_iff_not, Bool.and_eq_false_iff] at h
   by_cases e : x = y
   ·subst e
    have k := ih (b := s) (by simpa using h.2)
    simp only [List.cons.injEq, true_and]
    simp [k]
   ·have l : y < x := by
     rcases UInt8.lt_or_lt_of_ne e with q | q
     ·exact absurd q h.1
     ·exact q
    simp [l, e]
theorem Ts {x : List UInt8} (h : 0 < (x.length : Int)) (k : ((Af x 0).toNat : Int) = 48) : Lib.trimLeftB (x.drop 1) 48 = Lib.trimLeftB x 48 := by
 cases x with
 | nil => simp at h
 | cons a r =>
  have e : a = 48 := UInt8.toNat_inj.1 (by rw [show Af (a :: r) 0 = a by simp [Af]] at k; show a.toNat = 48; omega)
  subst e
  simp [Lib.trimLeftB]
theorem Tr {x : List UInt8} (h : 0 < (x.length : Int) → ¬ ((Af x 0).toNat : Int) = 48) : Lib.trimLeftB x 48 = x := by
 cases x with
 | nil => rfl
 | cons a r =>
  have k := h (by simp)
  have e : ¬ a = 48 := fun e => k (by subst e; rfl)
  simp [Lib.trimLeftB, e]
theorem Q44 {c : UInt8} (h : En c = false) : Cm c = true := by unfold Cm; rw [h]; rfl
theorem Q43 {c : UInt8} (h : En c = true) : Cm c = false := by unfold Cm; rw [h]; rfl
theorem T9 {x : List UInt8} (h : 0 < x.length) (k : En (Af x 0) = false) : (x.drop 1).drop (Ap Cm (x.drop 1)) = x.drop (Ap Cm x) := by
 cases x with
 | nil => simp at h
 | cons a r =>
  have ha : Af (a :: r) 0 = a := by simp [Af]
  rw [ha] at k
  unfold Ap
  simp [List.takeWhile_cons, Q44 k]
theorem Q2q {x : List UInt8} (k : En (Af x 0) = true) : x.drop (Ap Cm x) = x := by
 cases x with
 | nil => rfl
 | cons a r =>
  have ha : Af (a :: r) 0 = a := by simp [Af]
  rw [ha] at k
  unfold Ap
  simp [List.takeWhile_cons, Q43 k]
theorem Q52 {c : UInt8} (h : ((Bv c = true ∨ Ao c = true) ∨ (c.toNat : Int) = 126) ∨ (c.toNat : Int) = 94) : En c = true := by
 unfold En
 rcases h with ((h | h) | h) | h
 ·simp [h]
 ·simp [h]
 ·simp [show c.toNat = 126 by omega]
 ·simp [show c.toNat = 94 by omega]
def B4 : Bool → UInt8 → Bool
 | true => Ao
 | false => Bv
def Ga (s : List UInt8) : Bool := !decide (s = []) && !Ao (Af s 0)
theorem Nt (n : Int) :
  FnV Tryz.prog 203 [(.int .i64 n)] (.int .i64 (Co n 0)) := by
 refine Ba [.tmp 2] Tryz.func203 rfl Tryz.ntmps203 rfl rfl (fun B F hF => ?_)
 refine Aa [] [0] ?_
 refine Ab ?_
 refine Aa [] [0, 4] ?_
 refine A8 (p := n < 0) (by kernel_rfl) (fun c1 => ?_) (fun c1 => ?_)
 ·refine Aa [] [2] ?_
  refine Ag ?_
  refine RK wR [(.int .i64 (-1))] ?_
  exact Same.of_eq (by simp only [Aj]; unfold Co; rw [if_pos (by assumption)])
 ·refine Ai ?_
  refine Ab ?_
  refine Aa [] [6] ?_
  refine A8 (p := 0 < n) (by kernel_rfl) (fun c2 => ?_) (fun c2 => ?_)
  ·refine Aa [] [2] ?_
   refine Ag ?_
   refine RK wR [(.int .i64 1)] ?_
   exact Same.of_eq (by simp only [Aj]; unfold Co; rw [if_neg (by assumption), if_pos (by assumption)])
  ·refine Ai ?_
   refine Aa [] [2] ?_
   refine Ag ?_
   refine RK wR [(.int .i64 0)] ?_
   exact Same.of_eq (by simp only [Aj]; unfold Co; rw [if_neg (by assumption), if_neg (by assumption)])
theorem U2 (a b : List UInt8) :
  FnV Tryz.prog 218 [(.str a), (.str b)] (.int .i64 (Lib.compareBytes a b)) := by
 refine Ba [.tmp 4] Tryz.func218 rfl Tryz.ntmps218 rfl rfl (fun B F hF => ?_)
 refine Aa [] [0, 1] ?_
 refine Ab ?_
 refine Aa [] [0, 1, 7] ?_
 refine A9 (q := Op.bytesLess a b) (by kernel_rfl) (fun c1 => ?_) (fun c1 => ?_)
 ·try simp only [Al] at c1
  refine Aa [] [4] ?_
  refine Ag ?_
  refine RK wR [(.int .i64 (-1))] ?_
  exact Same.of_eq (by simp only [Aj]; rw [Nc, if_pos (by assumption)])
 ·try simp only [Al] at c1
  refine Ai ?_
  refine Ab ?_
  refine Aa [] [10] ?_
  refine A9 (q := !(Op.bytesLess a b || F8 a b)) (by kernel_rfl) (fun c2 => ?_) (fun c2 => ?_)
  ·try simp only [Al] at c2
   refine Aa [] [4] ?_
   refine Ag ?_
   refine RK wR [(.int .i64 1)] ?_
   exact Same.of_eq (by simp only [Aj]; rw [Nc, if_neg (by simp_all), if_pos (by rw [← Tv (by simp_all)]; simp_all)])
  ·try simp only [Al] at c2
   refine Ai ?_
   refine Aa [] [4] ?_
   refine Ag ?_
   refine RK wR [(.int .i64 0)] ?_
   exact Same.of_eq (by simp only [Aj]; rw [Nc, if_neg (by simp_all), if_neg (by rw [← Tv (by simp_all)]; simp_all)])
theorem Qm (a b : List UInt8) (ha : a.length ≤ 4194304) (hb : b.length ≤ 4194304) :
  FnV Tryz.prog 200 [(.str a), (.str b)] (.int .i64 (Ci a b)) := by
 refine Ba [.tmp 4] Tryz.func200 rfl Tryz.ntmps200 rfl rfl (fun B F hF => ?_)
 refine Aa [] [0, 1] ?_
 refine Ab ?_
 refine A3 ?_
 refine Bs (fun g y => ∃ (x : List UInt8), Lib.trimLeftB x 48 = Lib.trimLeftB a 48 ∧ x.length ≤ a.length ∧ y = ⟨[(0, (.str x)), (1, (.str b))], [], 0⟩ ∧ g = x.length) [0, 1] 0 _ (by omega) ⟨a, (by rfl), (by exact Nat.le_refl _), (by kernel_rfl), rfl⟩ ?_
 rintro g1 y1 ⟨x, f1_1, f1_2, rfl, rfl⟩
 refine Ab ?_
 obtain ⟨b1, hb1⟩ : ∃ b, b = (decide (0 < (x.length : Int))) := ⟨_, rfl⟩
 refine Ae (CS := [(5, (b1 = true → (b1 = true) ∧ (0 ≤ (0 : Int) ∧ 0 < x.length))), (6, (b1 = true → b1 = true)), (7, (b1 = true → b1 = true))]) [9, 10, 11] [0, 1, 12] [] hk0 (vk 4 8 (a := .bool (decide (0 < (x.length : Int)))) (b := .bool b1) (Imp.of_eq (by rw [hb1])) <| v0) (by refine cc _ ?_ <| cc _ ?_ <| cc _ ?_ c0 <;> (intros; simp_all; done)) ?_
 refine A9 (q := b1 && (decide (((Af x 0).toNat : Int) = 48))) (by kernel_rfl) (fun c1 => ?_) (fun c1 => ?_)
 ·subst hb1
  try simp only [Al] at c1
  refine Ai ?_
  refine A3 ?_
  refine Ar ?_
  refine A2 0 [] [0, 1] [] hk0 v0 (cc 1 (p := (0 ≤ (1 : Int) ∧ (1 : Int) ≤ (x.length : Int) ∧ (x.length : Int) ≤ (x.length : Int))) (by omega) <| c0) ?_
  refine ⟨by kernel_rfl, _, ?_, (x.drop 1), ?_, ?_, (Eq.trans (b := (⟨[(0, (.str ((x.take x.length).drop 1))), (1, (.str b))], [], 0⟩ : St)) (by kernel_rfl) (by rw [List.take_length] <;> kernel_rfl)), rfl⟩
  ·simp; omega
  ·rw [Ts c1.1 c1.2]; exact f1_1
  ·rw [List.length_drop]; omega
 ·subst hb1
  try simp only [Al] at c1
  have hx := Tr (x := x) (fun h k => by simp_all)
  rw [hx] at f1_1
  refine Bl ?_
  refine Ab ?_
  refine A3 ?_
  refine Bs (fun g y => ∃ (z : List UInt8), Lib.trimLeftB z 48 = Lib.trimLeftB b 48 ∧ z.length ≤ b.length ∧ y = ⟨[(0, (.str x)), (1, (.str z))], [], 0⟩ ∧ g = z.length) [0, 1] 0 _ (by omega) ⟨b, (by rfl), (by exact Nat.le_refl _), (by kernel_rfl), rfl⟩ ?_
  rintro g2 y2 ⟨z, f2_1, f2_2, rfl, rfl⟩
  refine Ab ?_
  obtain ⟨b2, hb2⟩ : ∃ b, b = (decide (0 < (z.length : Int))) := ⟨_, rfl⟩
  refine Ae (CS := [(5, (b2 = true → (b2 = true) ∧ (0 ≤ (0 : Int) ∧ 0 < z.length))), (6, (b2 = true → b2 = true)), (7, (b2 = true → b2 = true))]) [19, 20, 21] [0, 1, 22] [] hk0 (vk 4 18 (a := .bool (decide (0 < (z.length : Int)))) (b := .bool b2) (Imp.of_eq (by rw [hb2])) <| v0) (by refine cc _ ?_ <| cc _ ?_ <| cc _ ?_ c0 <;> (intros; simp_all; done)) ?_
  refine A9 (q := b2 && (decide (((Af z 0).toNat : Int) = 48))) (by kernel_rfl) (fun c2 => ?_) (fun c2 => ?_)
  ·subst hb2
   try simp only [Al] at c2
   refine Ai ?_
   refine A3 ?_
   refine Ar ?_
   refine A2 0 [] [0, 1] [] hk0 v0 (cc 1 (p := (0 ≤ (1 : Int) ∧ (1 : Int) ≤ (z.length : Int) ∧ (z.length : Int) ≤ (z.length : Int))) (by omega) <| c0) ?_
   refine ⟨by kernel_rfl, _, ?_, (z.drop 1), ?_, ?_, (Eq.trans (b := (⟨[(0, (.str x)), (1, (.str ((z.take z.length).drop 1)))], [], 0⟩ : St)) (by kernel_rfl) (by rw [List.take_length] <;> kernel_rfl)), rfl⟩
   ·simp; omega
   ·rw [Ts c2.1 c2.2]; exact f2_1
   ·rw [List.length_drop]; omega
  ·subst hb2
   try simp only [Al] at c2
   have hz := Tr (x := z) (fun h k => by simp_all)
   rw [hz] at f2_1
   refine Bl ?_
   refine Ab ?_
   refine Aa [] [0, 1, 29] ?_
   refine Cj (p := (x.length : Int) = (z.length : Int)) (by kernel_rfl) (fun c3 => ?_) (fun c3 => ?_)
   ·refine Ae [] [4] [] (hk 5 Oy (Nt ((x.length : Int) - (z.length : Int))) <| hk0) v0 (cc 4 (p := (-9223372036854775808 ≤ (x.length : Int) - (z.length : Int) ∧ (x.length : Int) - (z.length : Int) ≤ 9223372036854775807)) (by omega) <| c0) ?_
    refine Ag ?_
    refine RK wR [(.int .i64 (Co ((x.length : Int) - (z.length : Int)) 0))] ?_
    exact Same.of_eq (by simp only [Aj]; rw [O7]; unfold Ci; rw [← f1_1, ← f2_1]; unfold orI; rw [if_neg (by unfold Co; repeat' split <;> omega)])
   ·refine Ai ?_
    refine Ae [] [4] [] (hk 2 Y4 (U2 x z) <| hk0) v0 c0 ?_
    refine Ag ?_
    refine RK wR [(.int .i64 (Lib.compareBytes x z))] ?_
    exact Same.of_eq (by simp only [Aj]; unfold Ci; rw [← f1_1, ← f2_1]; unfold orI; rw [if_pos (by unfold Co; repeat' split <;> omega)])
theorem U3 (s : List UInt8) (hs : s.length ≤ 4194304) :
  FnV Tryz.prog 222 [(.str s)] (.str (s.drop (Ap Cm s))) := by
 refine Ba [.tmp 2] Tryz.func222 rfl Tryz.ntmps222 rfl rfl (fun B F hF => ?_)
 refine Aa [] [0] ?_
 refine Ab ?_
 refine A3 ?_
 refine Bs (fun g y => ∃ (x : List UInt8), x.length ≤ s.length ∧ x.drop (Ap Cm x) = s.drop (Ap Cm s) ∧ y = ⟨[(0, (.str x))], [], 0⟩ ∧ g = x.length) [0] 0 _ (by omega) ⟨s, (by exact Nat.le_refl _), (by rfl), (by kernel_rfl), rfl⟩ ?_
 rintro g1 y1 ⟨x, f1_1, f1_2, rfl, rfl⟩
 refine Ab ?_
 refine Aa [] [0, 7] ?_
 refine A8 (p := 0 < (x.length : Int)) (by kernel_rfl) (fun c1 => ?_) (fun c1 => ?_)
 ·refine Ai ?_
  refine A3 ?_
  refine Ae [] [0, 3] [] (hk 2 Ox (Nn (Af x 0)) <| hk0) v0 (cc 1 (p := (0 ≤ (0 : Int) ∧ 0 < x.length)) (by omega) <| c0) ?_
  refine Ae [] [0, 3, 4] [] (hk 2 Jy (Jb (Af x 0)) <| hk0) v0 (cc 1 (p := (0 ≤ (0 : Int) ∧ 0 < x.length)) (by omega) <| c0) ?_
  refine Ab ?_
  obtain ⟨b1, hb1⟩ : ∃ b, b = (Bv (Af x 0)) := ⟨_, rfl⟩
  obtain ⟨b2, hb2⟩ : ∃ b, b = (b1 || (Ao (Af x 0))) := ⟨_, rfl⟩
  obtain ⟨b3, hb3⟩ : ∃ b, b = (b2 || (decide (((Af x 0).toNat : Int) = 126))) := ⟨_, rfl⟩
  refine Ae (CS := [(3, (b1 = false → (!b1) = true)), (6, ((!b2) = true → ((!b2) = true) ∧ (0 ≤ (0 : Int) ∧ 0 < x.length))), (7, ((!b2) = true → (!b2) = true)), (8, (b2 = false → (!b2) = true)), (11, ((!b3) = true → ((!b3) = true) ∧ (0 ≤ (0 : Int) ∧ 0 < x.length))), (12, ((!b3) = true → (!b3) = true)), (13, (b3 = false → (!b3) = true))]) [16, 19, 20, 21, 24, 25, 26] [0, 27] [] hk0 (vk 2 15 (a := .bool (Bv (Af x 0))) (b := .bool b1) (Imp.of_eq (by rw [hb1])) <| vk 5 18 (a := .bool (b1 || (Ao (Af x 0)))) (b := .bool b2) (Imp.of_eq (by rw [hb2])) <| vk 9 22 (a := .bool (b2 || (decide (((Af x 0).toNat : Int) = 126)))) (b := .bool b3) (Imp.of_eq (by rw [hb3])) <| v0) (by refine cc _ ?_ <| cc _ ?_ <| cc _ ?_ <| cc _ ?_ <| cc _ ?_ <| cc _ ?_ <| cc _ ?_ c0 <;> (intros; simp_all; done)) ?_
  refine A9 (q := b3 || (decide (((Af x 0).toNat : Int) = 94))) (by kernel_rfl) (fun c2 => ?_) (fun c2 => ?_)
  ·subst hb3 hb2 hb1
   try simp only [Al] at c2
   refine Aa [] [2] ?_
   refine Ag ?_
   refine RK wR [(.str x)] ?_
   exact Same.of_eq (by simp only [Aj]; rw [← f1_2, Q2q (Q52 c2)])
  ·subst hb3 hb2 hb1
   try simp only [Al] at c2
   refine Ai ?_
   refine Ar ?_
   refine A2 0 [] [0] [] hk0 v0 (cc 1 (p := (0 ≤ (1 : Int) ∧ (1 : Int) ≤ (x.length : Int) ∧ (x.length : Int) ≤ (x.length : Int))) (by omega) <| c0) ?_
   refine ⟨by kernel_rfl, _, ?_, (x.drop 1), ?_, ?_, (Eq.trans (b := (⟨[(0, (.str ((x.take x.length).drop 1)))], [], 0⟩ : St)) (by kernel_rfl) (by rw [List.take_length] <;> kernel_rfl)), rfl⟩
   ·rw [List.length_drop]; omega
   ·rw [List.length_drop]; omega
   ·rw [T9 (by omega) (by unfold En; simp_all; omega)]; exact f1_2
 ·refine Bl ?_
  refine Aa [] [2] ?_
  refine Ag ?_
  refine RK wR [(.str x)] ?_
  exact Same.of_eq (by simp only [Aj]; rw [← f1_2, show x = [] from List.length_eq_zero_iff.1 (by omega)]; rfl)
theorem Nu (s : List UInt8) (d : Bool) (hs : s.length ≤ 4194304) :
  FnV Tryz.prog 221 [(.str s), (.bool d)] (.int .i64 ((Ap (B4 d) s : Int))) := by
 refine Ba [.tmp 4] Tryz.func221 rfl Tryz.ntmps221 rfl rfl (fun B F hF => ?_)
 refine Aa [] [0, 1] ?_
 refine Aa [] [0, 1, 5] ?_
 refine Ab ?_
 refine A3 ?_
 refine Bs (fun g y => ∃ (i : Nat), i ≤ s.length ∧ (∀ j, j < i → B4 d (Af s j) = true) ∧ y = ⟨[(0, (.str s)), (1, (.bool d)), (5, (.int .i64 ((i : Int))))], [], 0⟩ ∧ g = s.length - i) [0, 1, 5] 0 _ (by omega) ⟨0, (by omega), (by exact fun j hj => by omega), (by kernel_rfl), rfl⟩ ?_
 rintro g1 y1 ⟨i, f1_1, f1_2, rfl, rfl⟩
 refine Ab ?_
 refine Aa [] [0, 1, 5, 11] ?_
 refine A8 (p := (i : Int) < (s.length : Int)) (by kernel_rfl) (fun c1 => ?_) (fun c1 => ?_)
 ·refine Ai ?_
  refine A3 ?_
  refine Ae [] [0, 1, 5, 6] [] (hk 3 Ox (Nn (Af s i)) <| hk0) v0 (cc 2 (p := (0 ≤ (i : Int) ∧ i < s.length)) (by omega) <| c0) ?_
  refine Ae [] [0, 1, 5, 6, 7] [] (hk 3 Jy (Jb (Af s i)) <| hk0) v0 (cc 2 (p := (0 ≤ (i : Int) ∧ i < s.length)) (by omega) <| c0) ?_
  refine Ab ?_
  obtain ⟨b1, hb1⟩ : ∃ b, b = (d && (!(Ao (Af s i)))) := ⟨_, rfl⟩
  refine Ae (CS := [(3, (d = true → d = true)), (4, (d = true → d = true)), (7, ((!b1) = true → (!b1) = true)), (8, ((!b1) = true → (!b1) = true)), (10, (((!b1) && (!d)) = true → ((!b1) && (!d)) = true)), (11, ((!b1) = true → ((!b1) = true) ∧ ((!d) = true → ((!b1) && (!d)) = true))), (12, (b1 = false → (!b1) = true))]) [22, 23, 26, 27, 28, 29, 30, 31] [0, 1, 5, 32] [] hk0 (vk 6 25 (a := .bool (d && (!(Ao (Af s i))))) (b := .bool b1) (Imp.of_eq (by rw [hb1])) <| v0) (by refine cc _ ?_ <| cc _ ?_ <| cc _ ?_ <| cc _ ?_ <| cc _ ?_ <| cc _ ?_ <| cc _ ?_ c0 <;> (intros; simp_all; done)) ?_
  refine A9 (q := b1 || ((!d) && (!(Bv (Af s i))))) (by kernel_rfl) (fun c2 => ?_) (fun c2 => ?_)
  ·subst hb1
   try simp only [Al] at c2
   refine Aa [] [4] ?_
   refine Ag ?_
   refine RK wR [(.int .i64 ((i : Int)))] ?_
   exact Same.of_eq (by simp only [Aj]; rw [Sf (i := i) (by omega) f1_2 (by cases d <;> simp_all [B4])])
  ·subst hb1
   try simp only [Al] at c2
   refine Ai ?_
   refine Ar ?_
   refine A2 0 [] [0, 1, 5] [] hk0 v0 (cc 1 (p := (-9223372036854775808 ≤ (i : Int) + 1 ∧ (i : Int) + 1 ≤ 9223372036854775807)) (by omega) <| c0) ?_
   refine ⟨by kernel_rfl, _, ?_, i + 1, ?_, ?_, (by kernel_rfl), rfl⟩
   ·omega
   ·omega
   ·intro j hj
    by_cases h : j = i
    ·subst h; cases d <;> simp_all [B4]
    ·exact f1_2 j (by omega)
 ·refine Bl ?_
  refine Aa [] [4] ?_
  refine Ag ?_
  refine RK wR [(.int .i64 ((i : Int)))] ?_
  exact Same.of_eq (by simp only [Aj]; rw [Sg (fun j hj => f1_2 j (by omega)), show i = s.length from by omega])
theorem Uz (s : List UInt8) :
  FnV Tryz.prog 220 [(.str s)] (.int .i64 (Br s)) := by
 have hb0 : (Af s 0).toNat < 256 := (Af s 0).toNat_lt
 refine Ba [.tmp 2] Tryz.func220 rfl Tryz.ntmps220 rfl rfl (fun B F hF => ?_)
 refine Aa [] [0] ?_
 refine Ab ?_
 refine Aa [] [0, 7] ?_
 refine A8 (p := (s.length : Int) = 0) (by kernel_rfl) (fun c1 => ?_) (fun c1 => ?_)
 ·refine Aa [] [2] ?_
  refine Ag ?_
  refine RK wR [(.int .i64 0)] ?_
  exact Same.of_eq (by simp only [Aj]; unfold Br; rw [if_pos (.inl (List.length_eq_zero_iff.1 (by omega)))])
 ·refine Ai ?_
  refine Ae [] [0, 3] [] (hk 2 Jy (Jb (Af s 0)) <| hk0) v0 (cc 1 (p := (0 ≤ (0 : Int) ∧ 0 < s.length)) (by omega) <| c0) ?_
  refine Ae [] [0, 3, 4] [] (hk 2 Ox (Nn (Af s 0)) <| hk0) v0 (cc 1 (p := (0 ≤ (0 : Int) ∧ 0 < s.length)) (by omega) <| c0) ?_
  refine Ab ?_
  refine Aa [] [0, 4, 14] ?_
  refine A9 (q := Ao (Af s 0)) (by kernel_rfl) (fun c2 => ?_) (fun c2 => ?_)
  ·try simp only [Al] at c2
   refine Aa [] [2] ?_
   refine Ag ?_
   refine RK wR [(.int .i64 0)] ?_
   exact Same.of_eq (by simp only [Aj]; unfold Br; rw [if_pos (.inr (by assumption))])
  ·try simp only [Al] at c2
   refine Ai ?_
   refine Ab ?_
   refine Ae [] [0, 4, 17] [] hk0 v0 (cc 1 (p := (0 ≤ (0 : Int) ∧ 0 < s.length)) (by omega) <| c0) ?_
   refine A8 (p := ((Af s 0).toNat : Int) = 126) (by kernel_rfl) (fun c3 => ?_) (fun c3 => ?_)
   ·refine Aa [] [2] ?_
    refine Ag ?_
    refine RK wR [(.int .i64 (-1))] ?_
    exact Same.of_eq (by simp only [Aj]; unfold Br; rw [if_neg (by simp_all), if_pos (by omega)])
   ·refine Ai ?_
    refine Ab ?_
    refine Aa [] [0, 18] ?_
    refine A9 (q := Bv (Af s 0)) (by kernel_rfl) (fun c4 => ?_) (fun c4 => ?_)
    ·try simp only [Al] at c4
     refine Ae (CS := [(1, (0 ≤ (0 : Int) ∧ 0 < s.length)), (2, (-9223372036854775808 ≤ ((Af s 0).toNat : Int) ∧ ((Af s 0).toNat : Int) ≤ 9223372036854775807))]) [] [2] [] hk0 v0 (by refine cc _ ?_ <| cc _ ?_ c0 <;> omega) ?_
     refine Ag ?_
     refine RK wR [(.int .i64 (((Af s 0).toNat : Int)))] ?_
     exact Same.of_eq (by simp only [Aj]; unfold Br; rw [if_neg (by simp_all), if_neg (by omega), if_pos (by assumption)])
    ·try simp only [Al] at c4
     refine Ai ?_
     refine Ae (CS := [(1, (0 ≤ (0 : Int) ∧ 0 < s.length)), (2, (-9223372036854775808 ≤ ((Af s 0).toNat : Int) ∧ ((Af s 0).toNat : Int) ≤ 9223372036854775807)), (3, (-9223372036854775808 ≤ ((Af s 0).toNat : Int) + 256 ∧ ((Af s 0).toNat : Int) + 256 ≤ 9223372036854775807))]) [] [2] [] hk0 v0 (by refine cc _ ?_ <| cc _ ?_ <| cc _ ?_ c0 <;> omega) ?_
     refine Ag ?_
     refine RK wR [(.int .i64 (((Af s 0).toNat : Int) + 256))] ?_
     exact Same.of_eq (by simp only [Aj]; unfold Br; rw [if_neg (by simp_all), if_neg (by omega), if_neg (by simp_all), Int.add_comm]; try rfl; try simp [])
theorem U5 (s : List UInt8) :
  FnV Tryz.prog 219 [(.str s)] (.bool (Ga s)) := by
 refine Ba [.tmp 2] Tryz.func219 rfl Tryz.ntmps219 rfl rfl (fun B F hF => ?_)
 refine Aa [] [0] ?_
 refine Ab ?_
 refine Aa [] [0, 6] ?_
 refine A8 (p := (s.length : Int) = 0) (by kernel_rfl) (fun c1 => ?_) (fun c1 => ?_)
 ·refine Aa [] [2] ?_
  refine Ag ?_
  refine RK wR [(.bool false)] ?_
  exact Same.of_eq (by simp only [Aj]; unfold Ga; rw [show s = [] from List.length_eq_zero_iff.1 (by omega)]; rfl)
 ·refine Ai ?_
  refine Ae [] [3] [] (hk 2 Jy (Jb (Af s 0)) <| hk0) v0 (cc 1 (p := (0 ≤ (0 : Int) ∧ 0 < s.length)) (by omega) <| c0) ?_
  refine Aa [] [2] ?_
  refine Ag ?_
  refine RK wR [(.bool (!(Ao (Af s 0))))] ?_
  exact Same.of_eq (by simp only [Aj]; unfold Ga; rw [decide_eq_false (fun e => by simp [e] at c1)]; simp)
end Sv
end Go.Proofs.YtlfjokcbkopfeaaGreatDoor
end
section
namespace Go.Proofs.YtlfjokcbkopfeaaGreatDoor
open Go Go.RowKit
namespace Sv
attribute [local irreducible] SW SO Bg
set_option maxHeartbeats 2000000
set_option maxRecDepth 100000
theorem Y7 : As Tryz.prog 201 := Ax Tryz.func201 (by kernel_rfl) rfl
theorem Y6 : As Tryz.prog 202 := Ax Tryz.func202 (by kernel_rfl) rfl
theorem Tp (s : List UInt8) : -1 ≤ Br s ∧ Br s ≤ 511 := by
 have hb : (Af s 0).toNat < 256 := (Af s 0).toNat_lt
 unfold Br
 repeat' split
 all_goals omega
theorem X0a {x y : Int} (h : Co x y = 0) : x = y := by
 unfold Co at h
 split at h
 ·omega
 ·split at h <;> omega
theorem X0b (x : Int) : Co x x = 0 := by unfold Co; rw [if_neg (by omega), if_neg (by omega)]
theorem other_is {s : List UInt8} : Ga s = true ↔ ¬ Br s = 0 := by
 unfold Ga Br
 cases s with
 | nil => simp
 | cons a r =>
  have ha : Af (a :: r) 0 = a := by simp [Af]
  have hb : a.toNat < 256 := a.toNat_lt
  rw [ha]
  by_cases h : Ao a = true
  ·simp [h]
  ·have h : Ao a = false := by simpa using h
   have h0 : ¬ a.toNat = 0 ∨ Bv a = false := by
    by_cases q : a.toNat = 0
    ·right; unfold Bv; simp [q]
    ·exact .inl q
   simp only [h, List.cons_ne_nil, decide_false, Bool.not_false, Bool.and_self, false_or, Bool.false_eq_true, if_false]
   repeat' split
   all_goals first | omega | (simp_all; omega) | simp_all
theorem V6 {s : List UInt8} (h : Ga s = false) : Br s = 0 := by
 by_cases q : Br s = 0
 ·exact q
 ·rw [other_is.2 q] at h; cases h
theorem Zt {n : Nat} {u v : List UInt8} (hn : 1 ≤ n) (h : Br u ≠ 0 ∨ Br v ≠ 0) : C9 n u v = if Br u ≠ Br v then Co (Br u) (Br v) else C9 (n - 1) (u.drop 1) (v.drop 1) := by
 obtain ⟨m, rfl⟩ : ∃ m, n = m + 1 := ⟨n - 1, by omega⟩
 rw [C9, if_pos h]; rfl
theorem Sc {n : Nat} {u v : List UInt8} (hn : 1 ≤ n) (h1 : Br u = 0) (h2 : Br v = 0) : C9 n u v = if Ci (u.take (Ap Ao u)) (v.take (Ap Ao v)) ≠ 0 then Ci (u.take (Ap Ao u)) (v.take (Ap Ao v)) else if (u.drop (Ap Ao u)) ≠ [] ∨ (v.drop (Ap Ao v)) ≠ [] then C9 (n - 1) (u.drop (Ap Ao u)) (v.drop (Ap Ao v)) else 0 := by
 obtain ⟨m, rfl⟩ : ∃ m, n = m + 1 := ⟨n - 1, by omega⟩
 rw [C9, if_neg (by simp [h1, h2])]; rfl
theorem Zv : ∀ n : Nat, C9 n [] [] = 0
 | 0 => rfl
 | n + 1 => by rw [Sc (by omega) rfl rfl]; rfl
theorem Q9y {n : Nat} {u v : List UInt8} (hn : 1 ≤ n) (h1 : Br u = 0) (h2 : Br v = 0) (h3 : Ci (u.take (Ap Ao u)) (v.take (Ap Ao v)) = 0) : C9 n u v = C9 (if (u.drop (Ap Ao u)) = [] ∧ (v.drop (Ap Ao v)) = [] then 1 else n - 1) (u.drop (Ap Ao u)) (v.drop (Ap Ao v)) := by
 rw [Sc hn h1 h2, if_neg (by simp [h3])]
 by_cases q : (u.drop (Ap Ao u)) = [] ∧ (v.drop (Ap Ao v)) = []
 ·rw [if_neg (by simp [q.1, q.2]), if_pos q, q.1, q.2, Zv]
 ·rw [if_pos (by by_cases k : (u.drop (Ap Ao u)) = [] <;> simp_all), if_neg q]
theorem Uq {n m : Nat} {u v : List UInt8} (h : u.length + v.length < n) (hm : n ≤ m) (h2 : 2 ≤ m) (w1 : Br u = 0) (w2 : Br v = 0) : (if (u.drop (Ap Ao u)) = [] ∧ (v.drop (Ap Ao v)) = [] then 1 else n - 1) < m ∧ (u.drop (Ap Ao u)).length + (v.drop (Ap Ao v)).length < (if (u.drop (Ap Ao u)) = [] ∧ (v.drop (Ap Ao v)) = [] then 1 else n - 1) := by
 by_cases q : (u.drop (Ap Ao u)) = [] ∧ (v.drop (Ap Ao v)) = []
 ·rw [if_pos q, q.1, q.2]; exact ⟨by omega, by decide⟩
 ·rw [if_neg q, List.length_drop, List.length_drop]
  have k1 := Kh w1
  have k2 := Kh w2
  have k3 : ¬ (u.length = 0 ∧ v.length = 0) := fun k => q ⟨by rw [List.length_eq_zero_iff.1 k.1]; simp, by rw [List.length_eq_zero_iff.1 k.2]; simp⟩
  have k4 := Ez Ao u
  have k5 := Ez Ao v
  omega
theorem Xy (s : List UInt8) : (decide (0 < (s.length : Int)) && decide (((Af s 0).toNat : Int) = 126)) = A4 s 126 := by
 cases s with
 | nil => rfl
 | cons a r =>
  have ha : Af (a :: r) 0 = a := by simp [Af]
  rw [ha]; unfold A4
  simp [← UInt8.toNat_inj]; omega
theorem Xx (s : List UInt8) : (decide (0 < (s.length : Int)) && decide (((Af s 0).toNat : Int) = 94)) = A4 s 94 := by
 cases s with
 | nil => rfl
 | cons a r =>
  have ha : Af (a :: r) 0 = a := by simp [Af]
  rw [ha]; unfold A4
  simp [← UInt8.toNat_inj]; omega
def Uh : Bool → List UInt8 → List UInt8 → Int
 | true => Ci
 | false => Lib.compareBytes
section
variable {r : List UInt8 → List UInt8 → Int} {u v : List UInt8}
theorem Uk (h : (A4 u 126 = true ∧ A4 v 126 = true) ∨ (A4 u 126 = false ∧ A4 v 126 = false ∧ A4 u 94 = true ∧ A4 v 94 = true)) : C4 r u v = r (u.drop 1) (v.drop 1) := by
 unfold C4
 rcases h with ⟨h1, h2⟩ | ⟨h1, h2, h3, h4⟩ <;> simp_all
theorem Ui (h : (A4 u 126 == A4 v 126) = false) : C4 r u v = if A4 u 126 = true then -1 else 1 := by
 unfold C4 Em
 cases h1 : A4 u 126 <;> cases h2 : A4 v 126 <;> simp_all
theorem Nl (h1 : A4 u 126 = false) (h2 : A4 v 126 = false) (h : (A4 u 94 = true ∧ A4 v 94 = false ∧ ¬ u = []) ∨ (A4 u 94 = false ∧ A4 v 94 = true ∧ ¬ v = [])) :
  C4 r u v = if A4 u 94 = true then (if v = [] then 1 else -1) else (if u = [] then -1 else 1) := by
 unfold C4 Em
 by_cases e1 : u = [] <;> by_cases e2 : v = [] <;> rcases h with ⟨h3, h4, h5⟩ | ⟨h3, h4, h5⟩ <;> simp_all
theorem Q3k (h1 : A4 u 126 = false) (h2 : A4 v 126 = false) (h3 : A4 u 94 = false) (h4 : A4 v 94 = false) (h : u = [] ∨ v = []) : C4 r u v = Co (u.length : Int) (v.length : Int) := by
 unfold C4; rw [if_neg (by simp [h1, h2]), if_neg (by simp [h3, h4]), if_pos h]
theorem Q3h (h1 : A4 u 126 = false) (h2 : A4 v 126 = false) (h3 : A4 u 94 = false) (h4 : A4 v 94 = false) (h5 : ¬ u = []) (h6 : ¬ v = []) : C4 r u v =
  if Ap (B4 (Ao (Af u 0))) v = 0 then (if Ao (Af u 0) = true then 1 else -1)
  else if ¬ Uh (Ao (Af u 0)) (u.take (Ap (B4 (Ao (Af u 0))) u)) (v.take (Ap (B4 (Ao (Af u 0))) v)) = 0 then Uh (Ao (Af u 0)) (u.take (Ap (B4 (Ao (Af u 0))) u)) (v.take (Ap (B4 (Ao (Af u 0))) v))
  else r (u.drop (Ap (B4 (Ao (Af u 0))) u)) (v.drop (Ap (B4 (Ao (Af u 0))) v)) := by
 unfold C4
 rw [if_neg (by simp [h1, h2]), if_neg (by simp [h3, h4]), if_neg (by simp [h5, h6])]
 cases Ao (Af u 0) <;> rfl
theorem Q3a (hm : u = [] ∨ En (Af u 0) = true) (h1 : A4 u 126 = false) (h3 : A4 u 94 = false) (h5 : ¬ u = []) : 1 ≤ Ap (B4 (Ao (Af u 0))) u := by
 have hl : 1 ≤ u.length := List.length_pos_iff.2 h5
 cases h : Ao (Af u 0) with
 | true => exact Mr hl h
 | false => exact Mr (p := Bv) hl (Wz (hm.resolve_left h5) hl h1 h3 h)
theorem N9 {k : UInt8} (h : A4 u k = true) : ¬ u = [] := fun e => by have := Js h; rw [e] at this; simp at this
end
theorem Q3j {n : Nat} {a b : List UInt8} (hn : 1 ≤ n) : Ek n a b = C4 (Ek (n - 1)) (a.drop (Ap Cm a)) (b.drop (Ap Cm b)) := by
 obtain ⟨m, rfl⟩ : ∃ m, n = m + 1 := ⟨n - 1, by omega⟩
 rw [Ek]; rfl
theorem U8 (n : Nat) (a0 b0 : List UInt8) (h0 : a0.length + b0.length < n) (ha : a0.length ≤ 4194304) (hb : b0.length ≤ 4194304) :
  FnV Tryz.prog 201 [(.str a0), (.str b0)] (.int .i64 (C9 n a0 b0)) := by
 refine Ba [.tmp 4] Tryz.func201 rfl Tryz.ntmps201 rfl rfl (fun B F hF => ?_)
 refine Aa [] [0, 1] ?_
 refine Ab ?_
 refine A3 ?_
 refine Bs (fun g y => ∃ (fu : Nat) (x z : List UInt8), x.length + z.length < fu ∧ x.length ≤ a0.length ∧ z.length ≤ b0.length ∧ C9 n a0 b0 = C9 fu x z ∧ y = ⟨[(0, (.str x)), (1, (.str z))], [], 0⟩ ∧ g = fu) [0, 1] 0 _ (by omega) ⟨n, a0, b0, (by exact h0), (by omega), (by omega), (by rfl), (by kernel_rfl), rfl⟩ ?_
 rintro g1 y1 ⟨fu, x, z, f1_1, f1_2, f1_3, f1_4, rfl, rfl⟩
 refine Ab ?_
 refine Ae (CS := [(5, ((!(decide (0 < (x.length : Int)))) = true → (!(decide (0 < (x.length : Int)))) = true)), (6, ((!(decide (0 < (x.length : Int)))) = true → (!(decide (0 < (x.length : Int)))) = true)), (7, ((decide (0 < (x.length : Int))) = false → (!(decide (0 < (x.length : Int)))) = true))]) [15, 16, 17] [0, 1, 18] [] hk0 v0 (by refine cc _ ?_ <| cc _ ?_ <| cc _ ?_ c0 <;> simp) ?_
 refine A9 (q := (decide (0 < (x.length : Int))) || (decide (0 < (z.length : Int)))) (by kernel_rfl) (fun c1 => ?_) (fun c1 => ?_)
 ·try simp only [Al] at c1
  refine Ai ?_
  refine A3 ?_
  refine Ab ?_
  refine A3 ?_
  refine Bs (fun g y => ∃ (fi : Nat) (u v : List UInt8), u.length + v.length < fi ∧ u.length ≤ a0.length ∧ v.length ≤ b0.length ∧ fi ≤ g1 ∧ C9 n a0 b0 = C9 fi u v ∧ y = ⟨[(0, (.str u)), (1, (.str v))], [], 0⟩ ∧ g = fi) [0, 1] 0 _ (by omega) ⟨g1, x, z, (by omega), (by omega), (by omega), (by omega), (by exact f1_4), (by kernel_rfl), rfl⟩ ?_
  rintro g2 y2 ⟨fi, u, v, f2_1, f2_2, f2_3, f2_4, f2_5, rfl, rfl⟩
  refine A3 ?_
  refine Ae [] [0, 1, 5] [] (hk 1 Y3 (U5 u) <| hk0) v0 c0 ?_
  refine Ae [] [0, 1, 5, 6] [] (hk 1 Y3 (U5 v) <| hk0) v0 c0 ?_
  refine Ab ?_
  refine Ae (CS := [(4, ((!(Ga u)) = true → (!(Ga u)) = true)), (5, ((!(Ga u)) = true → (!(Ga u)) = true))]) [26, 27] [0, 1, 28] [] hk0 v0 (by refine cc _ ?_ <| cc _ ?_ c0 <;> simp) ?_
  refine A9 (q := (!(Ga u)) && (!(Ga v))) (by kernel_rfl) (fun c2 => ?_) (fun c2 => ?_)
  ·try simp only [Al] at c2
   have hwu := V6 c2.1
   have hwv := V6 c2.2
   have hcu := Ez Ao u
   have hcv := Ez Ao v
   refine Bl ?_
   refine Ae [] [0, 1, 8] [] (hk 1 Ov (Nu u true (by omega)) <| hk0) v0 c0 ?_
   refine Ae [] [0, 1, 8, 9] [] (hk 1 Ov (Nu v true (by omega)) <| hk0) v0 c0 ?_
   refine Cg (CS := [(2, (0 ≤ (0 : Int) ∧ (0 : Int) ≤ (Ap Ao u : Int) ∧ (Ap Ao u : Int) ≤ (u.length : Int))), (5, (0 ≤ (0 : Int) ∧ (0 : Int) ≤ (Ap Ao v : Int) ∧ (Ap Ao v : Int) ≤ (v.length : Int)))]) [] [0, 1, 8, 9, 10] [] (hk 6 R1 (Qm (u.take (Ap Ao u)) (v.take (Ap Ao v)) (by rw [List.length_take]; omega) (by rw [List.length_take]; omega)) <| hk0) v0 (by refine cc _ ?_ <| cc _ ?_ c0 <;> omega) ?_
   refine Ab ?_
   refine Aa [] [0, 1, 8, 9, 10, 54] ?_
   refine Cj (p := (Ci (u.take (Ap Ao u)) (v.take (Ap Ao v))) = 0) (by kernel_rfl) (fun c3 => ?_) (fun c3 => ?_)
   ·refine Aa [] [4] ?_
    refine Ag ?_
    refine RK wR [(.int .i64 (Ci (u.take (Ap Ao u)) (v.take (Ap Ao v))))] ?_
    exact Same.of_eq (by simp only [Aj]; rw [f2_5, Sc (by omega) hwu hwv, if_pos c3])
   ·refine Ai ?_
    refine Ae [] [0, 1, 9] [] hk0 v0 (cc 2 (p := (0 ≤ (Ap Ao u : Int) ∧ (Ap Ao u : Int) ≤ (u.length : Int) ∧ (u.length : Int) ≤ (u.length : Int))) (by omega) <| c0) ?_
    refine Ar ?_
    refine A2 0 [] [0, 1] [] hk0 v0 (cc 2 (p := (0 ≤ (Ap Ao v : Int) ∧ (Ap Ao v : Int) ≤ (v.length : Int) ∧ (v.length : Int) ≤ (v.length : Int))) (by omega) <| c0) ?_
    refine ⟨by kernel_rfl, _, ?_, (if (u.drop (Ap Ao u)) = [] ∧ (v.drop (Ap Ao v)) = [] then 1 else g2 - 1), (u.drop (Ap Ao u)), (v.drop (Ap Ao v)), ?_, ?_, ?_, ?_, (Eq.trans (b := (⟨[(0, (.str ((u.take u.length).drop (Ap Ao u)))), (1, (.str ((v.take v.length).drop (Ap Ao v))))], [], 0⟩ : St)) (by kernel_rfl) (by rw [List.take_length, List.take_length] <;> kernel_rfl)), rfl⟩
    have hrl := Uq f2_1 f2_4 (by omega) hwu hwv
    ·exact hrl.1
    ·have hrl := Uq f2_1 f2_4 (by omega) hwu hwv
     exact hrl.2
    ·rw [List.length_drop]; omega
    ·rw [List.length_drop]; omega
    ·rw [f2_5, Q9y (by omega) hwu hwv (by assumption)]
  ·try simp only [Al] at c2
   have hw : Br u ≠ 0 ∨ Br v ≠ 0 := c2.imp other_is.1 other_is.1
   have hwi := Tp u
   have hwj := Tp v
   refine Ai ?_
   refine Ae [] [0, 1, 7] [] (hk 1 Y2 (Uz u) <| hk 3 Y2 (Uz v) <| hk 5 Oy ((Nt ((Br u) - (Br v))).to (Same.of_eq (by rw [O7]))) <| hk0) v0 (cc 4 (p := (-9223372036854775808 ≤ (Br u) - (Br v) ∧ (Br u) - (Br v) ≤ 9223372036854775807)) (by omega) <| c0) ?_
   refine Ab ?_
   refine Aa [] [0, 1, 7, 36] ?_
   refine Cj (p := (Co (Br u) (Br v)) = 0) (by kernel_rfl) (fun c4 => ?_) (fun c4 => ?_)
   ·refine Aa [] [4] ?_
    refine Ag ?_
    refine RK wR [(.int .i64 (Co (Br u) (Br v)))] ?_
    exact Same.of_eq (by simp only [Aj]; rw [f2_5, Zt (by omega) hw, if_pos (fun e => c4 (by rw [e, X0b]))])
   ·have hwe := X0a c4
    have hpu := M7 (s := u) (by rcases hw with h | h <;> omega)
    have hpv := M7 (s := v) (by rcases hw with h | h <;> omega)
    refine Ai ?_
    refine Ae [] [0, 1] [] hk0 v0 (cc 1 (p := (0 ≤ (1 : Int) ∧ (1 : Int) ≤ (u.length : Int) ∧ (u.length : Int) ≤ (u.length : Int))) (by omega) <| c0) ?_
    refine Ar ?_
    refine A2 0 [] [0, 1] [] hk0 v0 (cc 1 (p := (0 ≤ (1 : Int) ∧ (1 : Int) ≤ (v.length : Int) ∧ (v.length : Int) ≤ (v.length : Int))) (by omega) <| c0) ?_
    refine ⟨by kernel_rfl, _, ?_, g2 - 1, (u.drop 1), (v.drop 1), ?_, ?_, ?_, ?_, ?_, (Eq.trans (b := (⟨[(0, (.str ((u.take u.length).drop 1))), (1, (.str ((v.take v.length).drop 1)))], [], 0⟩ : St)) (by kernel_rfl) (by rw [List.take_length, List.take_length] <;> kernel_rfl)), rfl⟩
    ·omega
    ·rw [List.length_drop, List.length_drop]; omega
    ·rw [List.length_drop]; omega
    ·rw [List.length_drop]; omega
    ·omega
    ·rw [f2_5, Zt (by omega) hw, if_neg (by simp [hwe])]
 ·try simp only [Al] at c1
  refine Bl ?_
  refine Aa [] [4] ?_
  refine Ag ?_
  refine RK wR [(.int .i64 0)] ?_
  exact Same.of_eq (by simp only [Aj]; rw [f1_4, show x = [] from List.length_eq_zero_iff.1 (by omega), show z = [] from List.length_eq_zero_iff.1 (by omega), Zv])
theorem U1 (n : Nat) (a0 b0 : List UInt8) (h0 : a0.length + b0.length < n) (ha : a0.length ≤ 4194304) (hb : b0.length ≤ 4194304) :
  FnV Tryz.prog 202 [(.str a0), (.str b0)] (.int .i64 (Ek n a0 b0)) := by
 refine Ba [.tmp 4] Tryz.func202 rfl Tryz.ntmps202 rfl rfl (fun B F hF => ?_)
 refine Aa [] [0, 1] ?_
 refine A3 ?_
 refine Bs (fun g y => ∃ (fu : Nat) (x z : List UInt8), x.length + z.length < fu ∧ x.length ≤ a0.length ∧ z.length ≤ b0.length ∧ Ek n a0 b0 = Ek fu x z ∧ y = ⟨[(0, (.str x)), (1, (.str z))], [], 0⟩ ∧ g = fu) [0, 1] 0 _ (by omega) ⟨n, a0, b0, (by exact h0), (by omega), (by omega), (by rfl), (by kernel_rfl), rfl⟩ ?_
 rintro g1 y1 ⟨fu, x, z, f1_1, f1_2, f1_3, f1_4, rfl, rfl⟩
 refine A3 ?_
 refine Ae [] [0, 1] [] (hk 1 Y1 (U3 x (by omega)) <| hk0) v0 c0 ?_
 refine C7 (fun y => ∃ (u v : List UInt8), u = x.drop (Ap Cm x) ∧ v = z.drop (Ap Cm z) ∧ y = ⟨[(0, (.str u)), (1, (.str v))], [], 0⟩) [0, 1] 0 (by omega) ?_ ?_
 ·refine Ar ?_
  refine A2 0 [] [0, 1] [] (hk 1 Y1 (U3 z (by omega)) <| hk0) v0 c0 ?_
  refine ⟨by kernel_rfl, (x.drop (Ap Cm x)), (z.drop (Ap Cm z)), ?_, ?_, (by kernel_rfl)⟩
  ·rfl
  ·rfl
 ·rintro y1 ⟨u, v, ju, jv, rfl⟩
  have hlu : u.length ≤ x.length := by rw [ju, List.length_drop]; omega
  have hlv : v.length ≤ z.length := by rw [jv, List.length_drop]; omega
  have hW : Ek n a0 b0 = C4 (Ek (g1 - 1)) u v := by rw [f1_4, ju, jv]; exact Q3j (by omega)
  have hmu := N6 ju
  have hmv := N6 jv
  refine Ae (CS := [(5, ((decide (0 < (u.length : Int))) = true → ((decide (0 < (u.length : Int))) = true) ∧ (0 ≤ (0 : Int) ∧ 0 < u.length))), (6, ((decide (0 < (u.length : Int))) = true → (decide (0 < (u.length : Int))) = true)), (7, ((decide (0 < (u.length : Int))) = true → (decide (0 < (u.length : Int))) = true))]) [19, 20, 21] [0, 1, 5] [] hk0 (vk 8 22 (a := (.bool ((decide (0 < (u.length : Int))) && (decide (((Af u 0).toNat : Int) = 126))))) (b := (.bool (A4 u 126))) (Imp.of_eq (congrArg AV.bool (Xy u))) <| v0) (by refine cc _ ?_ <| cc _ ?_ <| cc _ ?_ c0 <;> simp) ?_
  refine Ae (CS := [(5, ((decide (0 < (v.length : Int))) = true → ((decide (0 < (v.length : Int))) = true) ∧ (0 ≤ (0 : Int) ∧ 0 < v.length))), (6, ((decide (0 < (v.length : Int))) = true → (decide (0 < (v.length : Int))) = true)), (7, ((decide (0 < (v.length : Int))) = true → (decide (0 < (v.length : Int))) = true))]) [27, 28, 29] [0, 1, 5, 6] [] hk0 (vk 8 30 (a := (.bool ((decide (0 < (v.length : Int))) && (decide (((Af v 0).toNat : Int) = 126))))) (b := (.bool (A4 v 126))) (Imp.of_eq (congrArg AV.bool (Xy v))) <| v0) (by refine cc _ ?_ <| cc _ ?_ <| cc _ ?_ c0 <;> simp) ?_
  refine Ab ?_
  refine Aa [] [0, 1, 5, 33] ?_
  refine A9 (q := !((A4 u 126) == (A4 v 126))) (by kernel_rfl) (fun c1 => ?_) (fun c1 => ?_)
  ·try simp only [Al] at c1
   refine Ab ?_
   refine Aa [] [34] ?_
   refine A9 (q := A4 u 126) (by kernel_rfl) (fun c2 => ?_) (fun c2 => ?_)
   ·try simp only [Al] at c2
    refine Aa [] [4] ?_
    refine Ag ?_
    refine RK wR [(.int .i64 (-1))] ?_
    exact Same.of_eq (by simp only [Aj]; rw [hW, Ui c1, if_pos c2])
   ·try simp only [Al] at c2
    refine Ai ?_
    refine Aa [] [4] ?_
    refine Ag ?_
    refine RK wR [(.int .i64 1)] ?_
    exact Same.of_eq (by simp only [Aj]; rw [hW, Ui c1, if_neg (by simp [c2])])
  ·try simp only [Al] at c1
   refine Ai ?_
   refine Ab ?_
   refine Aa [] [0, 1, 35] ?_
   refine A9 (q := A4 u 126) (by kernel_rfl) (fun c3 => ?_) (fun c3 => ?_)
   ·try simp only [Al] at c3
    have hv1 : A4 v 126 = true := by simp_all
    have hp1 := Js c3
    have hp2 := Js hv1
    refine Ae [] [0, 1] [] hk0 v0 (cc 1 (p := (0 ≤ (1 : Int) ∧ (1 : Int) ≤ (u.length : Int) ∧ (u.length : Int) ≤ (u.length : Int))) (by omega) <| c0) ?_
    refine Ae [] [0, 1] [] hk0 v0 (cc 1 (p := (0 ≤ (1 : Int) ∧ (1 : Int) ≤ (v.length : Int) ∧ (v.length : Int) ≤ (v.length : Int))) (by omega) <| c0) ?_
    refine Bl ?_
    refine ⟨by kernel_rfl, _, ?_, g1 - 1, (u.drop 1), (v.drop 1), ?_, ?_, ?_, ?_, (Eq.trans (b := (⟨[(0, (.str ((u.take u.length).drop 1))), (1, (.str ((v.take v.length).drop 1)))], [], 0⟩ : St)) (by kernel_rfl) (by rw [List.take_length, List.take_length] <;> kernel_rfl)), rfl⟩
    ·omega
    ·rw [List.length_drop, List.length_drop]; omega
    ·rw [List.length_drop]; omega
    ·rw [List.length_drop]; omega
    ·rw [hW, Uk (.inl ⟨c3, hv1⟩)]
   ·try simp only [Al] at c3
    have hv0 : A4 v 126 = false := by simp_all
    refine Ai ?_
    refine Ae (CS := [(5, ((decide (0 < (u.length : Int))) = true → ((decide (0 < (u.length : Int))) = true) ∧ (0 ≤ (0 : Int) ∧ 0 < u.length))), (6, ((decide (0 < (u.length : Int))) = true → (decide (0 < (u.length : Int))) = true)), (7, ((decide (0 < (u.length : Int))) = true → (decide (0 < (u.length : Int))) = true))]) [44, 45, 46] [0, 1, 5] [] hk0 (vk 8 47 (a := (.bool ((decide (0 < (u.length : Int))) && (decide (((Af u 0).toNat : Int) = 94))))) (b := (.bool (A4 u 94))) (Imp.of_eq (congrArg AV.bool (Xx u))) <| v0) (by refine cc _ ?_ <| cc _ ?_ <| cc _ ?_ c0 <;> simp) ?_
    refine Ae (CS := [(5, ((decide (0 < (v.length : Int))) = true → ((decide (0 < (v.length : Int))) = true) ∧ (0 ≤ (0 : Int) ∧ 0 < v.length))), (6, ((decide (0 < (v.length : Int))) = true → (decide (0 < (v.length : Int))) = true)), (7, ((decide (0 < (v.length : Int))) = true → (decide (0 < (v.length : Int))) = true))]) [52, 53, 54] [0, 1, 5, 6] [] hk0 (vk 8 55 (a := (.bool ((decide (0 < (v.length : Int))) && (decide (((Af v 0).toNat : Int) = 94))))) (b := (.bool (A4 v 94))) (Imp.of_eq (congrArg AV.bool (Xx v))) <| v0) (by refine cc _ ?_ <| cc _ ?_ <| cc _ ?_ c0 <;> simp) ?_
    refine Ab ?_
    refine Ae [58] [0, 1, 5, 6, 59] [] hk0 v0 (cc 3 (p := ((A4 u 94) = true → (A4 u 94) = true)) (by simp) <| c0) ?_
    refine A9 (q := (A4 u 94) && (A4 v 94)) (by kernel_rfl) (fun c4 => ?_) (fun c4 => ?_)
    ·try simp only [Al] at c4
     have hp1 := Js c4.1
     have hp2 := Js c4.2
     refine Ae [] [0, 1] [] hk0 v0 (cc 1 (p := (0 ≤ (1 : Int) ∧ (1 : Int) ≤ (u.length : Int) ∧ (u.length : Int) ≤ (u.length : Int))) (by omega) <| c0) ?_
     refine Ae [] [0, 1] [] hk0 v0 (cc 1 (p := (0 ≤ (1 : Int) ∧ (1 : Int) ≤ (v.length : Int) ∧ (v.length : Int) ≤ (v.length : Int))) (by omega) <| c0) ?_
     refine Bl ?_
     refine ⟨by kernel_rfl, _, ?_, g1 - 1, (u.drop 1), (v.drop 1), ?_, ?_, ?_, ?_, (Eq.trans (b := (⟨[(0, (.str ((u.take u.length).drop 1))), (1, (.str ((v.take v.length).drop 1)))], [], 0⟩ : St)) (by kernel_rfl) (by rw [List.take_length, List.take_length] <;> kernel_rfl)), rfl⟩
     ·omega
     ·rw [List.length_drop, List.length_drop]; omega
     ·rw [List.length_drop]; omega
     ·rw [List.length_drop]; omega
     ·rw [hW, Uk (.inr ⟨c3, hv0, c4⟩)]
    ·try simp only [Al] at c4
     refine Ai ?_
     refine Ab ?_
     refine Aa [] [0, 1, 6, 64] ?_
     refine A9 (q := A4 u 94) (by kernel_rfl) (fun c5 => ?_) (fun c5 => ?_)
     ·try simp only [Al] at c5
      have hv9 : A4 v 94 = false := by simp_all
      refine Ab ?_
      refine Aa [] [67] ?_
      refine A8 (p := (v.length : Int) = 0) (by kernel_rfl) (fun c6 => ?_) (fun c6 => ?_)
      ·refine Aa [] [4] ?_
       refine Ag ?_
       refine RK wR [(.int .i64 1)] ?_
       exact Same.of_eq (by simp only [Aj]; rw [hW, Nl c3 hv0 (.inl ⟨c5, hv9, N9 c5⟩), if_pos c5, if_pos (List.length_eq_zero_iff.1 (by omega))])
      ·refine Ai ?_
       refine Aa [] [4] ?_
       refine Ag ?_
       refine RK wR [(.int .i64 (-1))] ?_
       exact Same.of_eq (by simp only [Aj]; rw [hW, Nl c3 hv0 (.inl ⟨c5, hv9, N9 c5⟩), if_pos c5, if_neg (fun e => c6 (by rw [e]; rfl))])
     ·try simp only [Al] at c5
      refine Ai ?_
      refine Ab ?_
      refine Aa [] [0, 1, 68] ?_
      refine A9 (q := A4 v 94) (by kernel_rfl) (fun c7 => ?_) (fun c7 => ?_)
      ·try simp only [Al] at c7
       refine Ab ?_
       refine Aa [] [71] ?_
       refine A8 (p := (u.length : Int) = 0) (by kernel_rfl) (fun c8 => ?_) (fun c8 => ?_)
       ·refine Aa [] [4] ?_
        refine Ag ?_
        refine RK wR [(.int .i64 (-1))] ?_
        exact Same.of_eq (by simp only [Aj]; rw [hW, Nl c3 hv0 (.inr ⟨c5, c7, N9 c7⟩), if_neg (by simp [c5]), if_pos (List.length_eq_zero_iff.1 (by omega))])
       ·refine Ai ?_
        refine Aa [] [4] ?_
        refine Ag ?_
        refine RK wR [(.int .i64 1)] ?_
        exact Same.of_eq (by simp only [Aj]; rw [hW, Nl c3 hv0 (.inr ⟨c5, c7, N9 c7⟩), if_neg (by simp [c5]), if_neg (fun e => c8 (by rw [e]; rfl))])
      ·try simp only [Al] at c7
       refine Ai ?_
       refine Ab ?_
       refine Ae (CS := [(5, ((!(decide ((u.length : Int) = 0))) = true → (!(decide ((u.length : Int) = 0))) = true)), (6, ((!(decide ((u.length : Int) = 0))) = true → (!(decide ((u.length : Int) = 0))) = true)), (7, ((decide ((u.length : Int) = 0)) = false → (!(decide ((u.length : Int) = 0))) = true))]) [76, 77, 78] [0, 1, 79] [] hk0 v0 (by refine cc _ ?_ <| cc _ ?_ <| cc _ ?_ c0 <;> simp) ?_
       refine A9 (q := (decide ((u.length : Int) = 0)) || (decide ((v.length : Int) = 0))) (by kernel_rfl) (fun c9 => ?_) (fun c9 => ?_)
       ·try simp only [Al] at c9
        refine Ae [] [4] [] (hk 5 Oy ((Nt ((u.length : Int) - (v.length : Int))).to (Same.of_eq (by rw [O7]))) <| hk0) v0 (cc 4 (p := (-9223372036854775808 ≤ (u.length : Int) - (v.length : Int) ∧ (u.length : Int) - (v.length : Int) ≤ 9223372036854775807)) (by omega) <| c0) ?_
        refine Ag ?_
        refine RK wR [(.int .i64 (Co (u.length : Int) (v.length : Int)))] ?_
        exact Same.of_eq (by simp only [Aj]; rw [hW, Q3k c3 hv0 c5 c7 (by rcases c9 with h | h; exact .inl (List.length_eq_zero_iff.1 (by omega)); exact .inr (List.length_eq_zero_iff.1 (by omega)))])
       ·try simp only [Al] at c9
        have hun : ¬ u = [] := fun e => c9.1 (by rw [e]; rfl)
        have hvn : ¬ v = [] := fun e => c9.2 (by rw [e]; rfl)
        have hrt := Q3h (r := Ek (g1 - 1)) c3 hv0 c5 c7 hun hvn
        have hru := Q3a hmu c3 c5 hun
        have hcu := Ez (B4 (Ao (Af u 0))) u
        have hcv := Ez (B4 (Ao (Af u 0))) v
        refine Ai ?_
        refine Ae [] [0, 1, 7] [] (hk 2 Jy (Jb (Af u 0)) <| hk0) v0 (cc 1 (p := (0 ≤ (0 : Int) ∧ 0 < u.length)) (by omega) <| c0) ?_
        refine Ae [] [0, 1, 7, 8] [] (hk 2 Ov (Nu u (Ao (Af u 0)) (by omega)) <| hk0) v0 c0 ?_
        refine Ae [] [0, 1, 7, 8, 9] [] (hk 2 Ov (Nu v (Ao (Af u 0)) (by omega)) <| hk0) v0 c0 ?_
        refine Ab ?_
        refine Aa [] [0, 1, 7, 8, 9, 96] ?_
        refine A8 (p := (Ap (B4 (Ao (Af u 0))) v : Int) = 0) (by kernel_rfl) (fun c10 => ?_) (fun c10 => ?_)
        ·refine Ab ?_
         refine Aa [] [97] ?_
         refine A9 (q := Ao (Af u 0)) (by kernel_rfl) (fun c11 => ?_) (fun c11 => ?_)
         ·try simp only [Al] at c11
          refine Aa [] [4] ?_
          refine Ag ?_
          refine RK wR [(.int .i64 1)] ?_
          exact Same.of_eq (by simp only [Aj]; rw [hW, hrt, if_pos (by omega), if_pos c11])
         ·try simp only [Al] at c11
          refine Ai ?_
          refine Aa [] [4] ?_
          refine Ag ?_
          refine RK wR [(.int .i64 (-1))] ?_
          exact Same.of_eq (by simp only [Aj]; rw [hW, hrt, if_pos (by omega), if_neg (by simp [c11])])
        ·refine Ai ?_
         refine Cg (CS := [(2, (0 ≤ (0 : Int) ∧ (0 : Int) ≤ (Ap (B4 (Ao (Af u 0))) u : Int) ∧ (Ap (B4 (Ao (Af u 0))) u : Int) ≤ (u.length : Int))), (5, (0 ≤ (0 : Int) ∧ (0 : Int) ≤ (Ap (B4 (Ao (Af u 0))) v : Int) ∧ (Ap (B4 (Ao (Af u 0))) v : Int) ≤ (v.length : Int)))]) [] [0, 1, 7, 8, 9, 10] [] (hk 6 Y4 (U2 (u.take (Ap (B4 (Ao (Af u 0))) u)) (v.take (Ap (B4 (Ao (Af u 0))) v))) <| hk0) v0 (by refine cc _ ?_ <| cc _ ?_ c0 <;> omega) ?_
         refine Ab ?_
         refine Aa [] [0, 1, 8, 9, 10, 105] ?_
         refine A9 (q := Ao (Af u 0)) (by kernel_rfl) (fun c12 => ?_) (fun c12 => ?_)
         ·try simp only [Al] at c12
          refine G1 (CS := [(2, (0 ≤ (0 : Int) ∧ (0 : Int) ≤ (Ap (B4 (Ao (Af u 0))) u : Int) ∧ (Ap (B4 (Ao (Af u 0))) u : Int) ≤ (u.length : Int))), (5, (0 ≤ (0 : Int) ∧ (0 : Int) ≤ (Ap (B4 (Ao (Af u 0))) v : Int) ∧ (Ap (B4 (Ao (Af u 0))) v : Int) ≤ (v.length : Int)))]) [] [0, 1, 8, 9, 10] [] (hk 6 R1 (Qm (u.take (Ap (B4 (Ao (Af u 0))) u)) (v.take (Ap (B4 (Ao (Af u 0))) v)) (by rw [List.length_take]; omega) (by rw [List.length_take]; omega)) <| hk0) v0 (by refine cc _ ?_ <| cc _ ?_ c0 <;> omega) ?_
          refine Ab ?_
          refine Aa [] [0, 1, 8, 9, 10, 114] ?_
          refine Cj (p := (Ci (u.take (Ap (B4 (Ao (Af u 0))) u)) (v.take (Ap (B4 (Ao (Af u 0))) v))) = 0) (by kernel_rfl) (fun c13 => ?_) (fun c13 => ?_)
          ·refine Aa [] [4] ?_
           refine Ag ?_
           refine RK wR [(.int .i64 (Ci (u.take (Ap (B4 (Ao (Af u 0))) u)) (v.take (Ap (B4 (Ao (Af u 0))) v))))] ?_
           exact Same.of_eq (by simp only [Aj]; rw [hW, hrt, if_neg (by omega), if_pos (by rw [c12]; rw [c12] at c13; exact c13), c12]; rfl)
          ·refine Ai ?_
           refine Ae [] [0, 1, 9] [] hk0 v0 (cc 2 (p := (0 ≤ (Ap (B4 (Ao (Af u 0))) u : Int) ∧ (Ap (B4 (Ao (Af u 0))) u : Int) ≤ (u.length : Int) ∧ (u.length : Int) ≤ (u.length : Int))) (by omega) <| c0) ?_
           refine Ar ?_
           refine A2 0 [] [0, 1] [] hk0 v0 (cc 2 (p := (0 ≤ (Ap (B4 (Ao (Af u 0))) v : Int) ∧ (Ap (B4 (Ao (Af u 0))) v : Int) ≤ (v.length : Int) ∧ (v.length : Int) ≤ (v.length : Int))) (by omega) <| c0) ?_
           refine ⟨by kernel_rfl, _, ?_, g1 - 1, (u.drop (Ap (B4 (Ao (Af u 0))) u)), (v.drop (Ap (B4 (Ao (Af u 0))) v)), ?_, ?_, ?_, ?_, (Eq.trans (b := (⟨[(0, (.str ((u.take u.length).drop (Ap (B4 (Ao (Af u 0))) u)))), (1, (.str ((v.take v.length).drop (Ap (B4 (Ao (Af u 0))) v))))], [], 0⟩ : St)) (by kernel_rfl) (by rw [List.take_length, List.take_length] <;> kernel_rfl)), rfl⟩
           ·omega
           ·rw [List.length_drop, List.length_drop]; omega
           ·rw [List.length_drop]; omega
           ·rw [List.length_drop]; omega
           ·rw [hW, hrt, if_neg (by omega), if_neg (fun k => k (by rw [c12]; rw [c12] at c13; exact c13))]
         ·try simp only [Al] at c12
          refine Ai ?_
          refine Ab ?_
          refine Aa [] [0, 1, 8, 9, 10, 114] ?_
          refine Cj (p := (Lib.compareBytes (u.take (Ap (B4 (Ao (Af u 0))) u)) (v.take (Ap (B4 (Ao (Af u 0))) v))) = 0) (by kernel_rfl) (fun c14 => ?_) (fun c14 => ?_)
          ·refine Aa [] [4] ?_
           refine Ag ?_
           refine RK wR [(.int .i64 (Lib.compareBytes (u.take (Ap (B4 (Ao (Af u 0))) u)) (v.take (Ap (B4 (Ao (Af u 0))) v))))] ?_
           exact Same.of_eq (by simp only [Aj]; rw [hW, hrt, if_neg (by omega), if_pos (by rw [c12]; rw [c12] at c14; exact c14), c12]; rfl)
          ·refine Ai ?_
           refine Ae [] [0, 1, 9] [] hk0 v0 (cc 2 (p := (0 ≤ (Ap (B4 (Ao (Af u 0))) u : Int) ∧ (Ap (B4 (Ao (Af u 0))) u : Int) ≤ (u.length : Int) ∧ (u.length : Int) ≤ (u.length : Int))) (by omega) <| c0) ?_
           refine Ar ?_
           refine A2 0 [] [0, 1] [] hk0 v0 (cc 2 (p := (0 ≤ (Ap (B4 (Ao (Af u 0))) v : Int) ∧ (Ap (B4 (Ao (Af u 0))) v : Int) ≤ (v.length : Int) ∧ (v.length : Int) ≤ (v.length : Int))) (by omega) <| c0) ?_
           refine ⟨by kernel_rfl, _, ?_, g1 - 1, (u.drop (Ap (B4 (Ao (Af u 0))) u)), (v.drop (Ap (B4 (Ao (Af u 0))) v)), ?_, ?_, ?_, ?_, (Eq.trans (b := (⟨[(0, (.str ((u.take u.length).drop (Ap (B4 (Ao (Af u 0))) u)))), (1, (.str ((v.take v.length).drop (Ap (B4 (Ao (Af u 0))) v))))], [], 0⟩ : St)) (by kernel_rfl) (by rw [List.take_length, List.take_length] <;> kernel_rfl)), rfl⟩
           ·omega
           ·rw [List.length_drop, List.length_drop]; omega
           ·rw [List.length_drop]; omega
           ·rw [List.length_drop]; omega
           ·rw [hW, hrt, if_neg (by omega), if_neg (fun k => k (by rw [c12]; rw [c12] at c14; exact c14))]
end Sv
end Go.Proofs.YtlfjokcbkopfeaaGreatDoor
end
section
namespace Go.Proofs.YtlfjokcbkopfeaaGreatDoor
open Go Go.RowKit
namespace Sv
attribute [local irreducible] SW SO Bg
set_option maxHeartbeats 1000000
set_option maxRecDepth 100000
theorem Q8j : As Tryz.prog 168 := Ax Tryz.func168 (by kernel_rfl) rfl
theorem Q8i : As Tryz.prog 169 := Ax Tryz.func169 (by kernel_rfl) rfl
theorem Q8k : As Tryz.prog 160 := Ax Tryz.func160 (by kernel_rfl) rfl
theorem Hj : As Tryz.prog 182 := Ax Tryz.func182 (by kernel_rfl) rfl
theorem Q3r {a b : List UInt8} (h : a = [] ∨ b = []) : Co (a.length : Int) (b.length : Int) = Em (!decide (a = [])) (!decide (b = [])) 1 := by
 unfold Co Em
 cases a <;> cases b <;> simp_all
 all_goals omega
theorem Gh {s : List UInt8} (h : ¬ B7 s = 0) : Cc s = ([], [], []) := by unfold Cc; rw [if_neg h]
def Aq (op bit : Int) : Bool := decide (Int.tmod (Int.tdiv op bit) 2 = 1)
theorem to7 {op : Int} (h : 0 ≤ op ∧ op ≤ 7) : op = 0 ∨ op = 1 ∨ op = 2 ∨ op = 3 ∨ op = 4 ∨ op = 5 ∨ op = 6 ∨ op = 7 := by omega
theorem Q6t {op bit : Int} (h : 0 ≤ op ∧ op ≤ 7) (k : bit = 1 ∨ bit = 2 ∨ bit = 4) : 0 ≤ Int.tdiv op bit ∧ Int.tdiv op bit ≤ 7 := by
 rcases to7 h with rfl | rfl | rfl | rfl | rfl | rfl | rfl | rfl <;> rcases k with rfl | rfl | rfl <;> decide
theorem Ok {op bit : Int} (h : 0 ≤ op ∧ op ≤ 7) (k : bit = 1 ∨ bit = 4) : Aq op bit = !decide (Go.bits .and .i64 op bit = 0) := by
 rcases to7 h with rfl | rfl | rfl | rfl | rfl | rfl | rfl | rfl <;> rcases k with rfl | rfl <;> rfl
theorem Q6u {op o : Int} (h : 0 ≤ op ∧ op ≤ 7) (k : 0 ≤ o ∧ o ≤ 7) : ((Aq op 2 && Aq o 2) || ((Aq op 1 && Aq o 1) || (Aq op 4 && Aq o 4))) = !decide (Go.bits .and .i64 op o = 0) := by
 rcases to7 h with rfl | rfl | rfl | rfl | rfl | rfl | rfl | rfl <;> rcases to7 k with rfl | rfl | rfl | rfl | rfl | rfl | rfl | rfl <;> rfl
theorem Q33 (k : Int) (a b : (List UInt8 × List UInt8 × List UInt8)) (ha : a.1.length ≤ 4194304 ∧ a.2.1.length ≤ 4194304 ∧ a.2.2.length ≤ 4194304) (hb : b.1.length ≤ 4194304 ∧ b.2.1.length ≤ 4194304 ∧ b.2.2.length ≤ 4194304) :
  FnV Tryz.prog 169 [(.int .i64 k), (.agg [(.str a.1), (.str a.2.1), (.str a.2.2)]), (.agg [(.str b.1), (.str b.2.1), (.str b.2.2)])] (.tup [.int .i64 (B9 k a b).1, .int .i64 (B9 k a b).2]) := by
 refine Ba [.tmp 6, .tmp 7] Tryz.func169 rfl Tryz.ntmps169 rfl rfl (fun B F hF => ?_)
 refine Ae [] [0, 4, 5] [(1, 4), (2, 5)] hk0 v0 c0 ?_
 refine Ae [] [0, 4, 5, 8] [] (hk 4 R1 (Qm a.1 b.1 ha.1 hb.1) <| hk0) v0 c0 ?_
 refine Ab ?_
 refine Aa [] [4, 5, 8, 17] ?_
 refine A8 (p := k = 2) (by kernel_rfl) (fun c1 => ?_) (fun c1 => ?_)
 ·refine C7 (fun y => ∃ (c : Int), c = orI (Ci a.1 b.1) (Hm a.2.1 b.2.1) ∧ y = ⟨[(4, (.fp (.agg [(.str a.1), (.str a.2.1), (.str a.2.2)]))), (5, (.fp (.agg [(.str b.1), (.str b.2.1), (.str b.2.2)]))), (8, (.int .i64 c))], [], 2⟩) [4, 5, 8] 2 (by omega) ?_ ?_
  ·refine Aa [] [4, 5, 8, 19] ?_
   refine A8 (p := (Ci a.1 b.1) = 0) (by kernel_rfl) (fun c2 => ?_) (fun c2 => ?_)
   ·refine Ar ?_
    refine A2 0 [] [4, 5, 8] [] (hk 4 Y7 (U8 _ a.2.1 b.2.1 (Nat.lt_succ_self _) (by first | omega | (rw [jra]; exact D8 ha.2.2) | (rw [jrb]; exact D8 hb.2.2)) (by first | omega | (rw [jra]; exact D8 ha.2.2) | (rw [jrb]; exact D8 hb.2.2))) <| hk0) v0 c0 ?_
    refine ⟨by kernel_rfl, (Hm a.2.1 b.2.1), ?_, (by kernel_rfl)⟩
    unfold orI
    rw [if_pos (by assumption)]
   ·refine Ai ?_
    refine ⟨by kernel_rfl, (Ci a.1 b.1), ?_, (by kernel_rfl)⟩
    unfold orI
    rw [if_neg (by assumption)]
  ·rintro y1 ⟨c, jc, rfl⟩
   refine Aa [] [5, 8, 9] ?_
   refine Aa [] [8, 9, 10] ?_
   refine C7 (fun y => ∃ (ra : List UInt8), ra = orS a.2.2 [48] ∧ y = ⟨[(8, (.int .i64 c)), (9, (.str ra)), (10, (.str b.2.2))], [], 2⟩) [8, 9, 10] 2 (by omega) ?_ ?_
   ·refine Aa [] [8, 9, 10, 30] ?_
    refine A8 (p := a.2.2 = []) (by kernel_rfl) (fun c3 => ?_) (fun c3 => ?_)
    ·refine Ar ?_
     refine D4 [] [8, 9, 10] ?_
     refine ⟨by kernel_rfl, [48], ?_, (by kernel_rfl)⟩
     unfold orS
     rw [if_pos (by assumption)]
    ·refine Ai ?_
     refine ⟨by kernel_rfl, a.2.2, ?_, (by kernel_rfl)⟩
     unfold orS
     rw [if_neg (by assumption)]
   ·rintro y2 ⟨ra, jra, rfl⟩
    refine C7 (fun y => ∃ (rb : List UInt8), rb = orS b.2.2 [48] ∧ y = ⟨[(8, (.int .i64 c)), (9, (.str ra)), (10, (.str rb))], [], 2⟩) [8, 9, 10] 2 (by omega) ?_ ?_
    ·refine Aa [] [8, 9, 10, 32] ?_
     refine A8 (p := b.2.2 = []) (by kernel_rfl) (fun c4 => ?_) (fun c4 => ?_)
     ·refine Ar ?_
      refine D4 [] [8, 9, 10] ?_
      refine ⟨by kernel_rfl, [48], ?_, (by kernel_rfl)⟩
      unfold orS
      rw [if_pos (by assumption)]
     ·refine Ai ?_
      refine ⟨by kernel_rfl, b.2.2, ?_, (by kernel_rfl)⟩
      unfold orS
      rw [if_neg (by assumption)]
    ·rintro y3 ⟨rb, jrb, rfl⟩
     refine Ae [] [6, 7] [] (hk 3 Y7 (U8 _ ra rb (Nat.lt_succ_self _) (by first | omega | (rw [jra]; exact D8 ha.2.2) | (rw [jrb]; exact D8 hb.2.2)) (by first | omega | (rw [jra]; exact D8 ha.2.2) | (rw [jrb]; exact D8 hb.2.2))) <| hk0) v0 c0 ?_
     refine Ag ?_
     refine RK wR [(.int .i64 c), (.int .i64 (Hm ra rb))] ?_
     exact Same.of_eq (by simp only [Aj]; unfold B9; rw [if_pos c1, jc, jra, jrb])
 ·refine Ai ?_
  refine C7 (fun y => ∃ (c : Int), c = orI (Ci a.1 b.1) (F9 a.2.1 b.2.1) ∧ y = ⟨[(4, (.fp (.agg [(.str a.1), (.str a.2.1), (.str a.2.2)]))), (5, (.fp (.agg [(.str b.1), (.str b.2.1), (.str b.2.2)]))), (8, (.int .i64 c))], [], 2⟩) [4, 5, 8] 2 (by omega) ?_ ?_
  ·refine Aa [] [4, 5, 8, 38] ?_
   refine A8 (p := (Ci a.1 b.1) = 0) (by kernel_rfl) (fun c5 => ?_) (fun c5 => ?_)
   ·refine Ar ?_
    refine A2 0 [] [4, 5, 8] [] (hk 4 Y6 (U1 _ a.2.1 b.2.1 (Nat.lt_succ_self _) (by first | omega | (rw [jra]; exact D8 ha.2.2) | (rw [jrb]; exact D8 hb.2.2)) (by first | omega | (rw [jra]; exact D8 ha.2.2) | (rw [jrb]; exact D8 hb.2.2))) <| hk0) v0 c0 ?_
    refine ⟨by kernel_rfl, (F9 a.2.1 b.2.1), ?_, (by kernel_rfl)⟩
    unfold orI
    rw [if_pos (by assumption)]
   ·refine Ai ?_
    refine ⟨by kernel_rfl, (Ci a.1 b.1), ?_, (by kernel_rfl)⟩
    unfold orI
    rw [if_neg (by assumption)]
  ·rintro y4 ⟨c, jc, rfl⟩
   refine Ab ?_
   refine Ae (CS := [(5, ((!(decide (a.2.2 = []))) = true → (!(decide (a.2.2 = []))) = true)), (6, ((!(decide (a.2.2 = []))) = true → (!(decide (a.2.2 = []))) = true)), (7, ((decide (a.2.2 = [])) = false → (!(decide (a.2.2 = []))) = true))]) [48, 49, 50] [4, 5, 8, 51] [] hk0 v0 (by refine cc _ ?_ <| cc _ ?_ <| cc _ ?_ c0 <;> simp) ?_
   refine A9 (q := (decide (a.2.2 = [])) || (decide (b.2.2 = []))) (by kernel_rfl) (fun c6 => ?_) (fun c6 => ?_)
   ·try simp only [Al] at c6
    refine Ae [] [6, 7] [] (hk 8 Oy ((Nt ((a.2.2.length : Int) - (b.2.2.length : Int))).to (Same.of_eq (by rw [O7]))) <| hk0) v0 (cc 7 (p := (-9223372036854775808 ≤ (a.2.2.length : Int) - (b.2.2.length : Int) ∧ (a.2.2.length : Int) - (b.2.2.length : Int) ≤ 9223372036854775807)) (by omega) <| c0) ?_
    refine Ag ?_
    refine RK wR [(.int .i64 c), (.int .i64 (Co (a.2.2.length : Int) (b.2.2.length : Int)))] ?_
    exact Same.of_eq (by simp only [Aj]; unfold B9; rw [if_neg c1, if_pos (by assumption), jc, Q3r (by assumption)])
   ·try simp only [Al] at c6
    refine Ai ?_
    refine Ae [] [6, 7] [] (hk 5 Y6 (U1 _ a.2.2 b.2.2 (Nat.lt_succ_self _) (by first | omega | (rw [jra]; exact D8 ha.2.2) | (rw [jrb]; exact D8 hb.2.2)) (by first | omega | (rw [jra]; exact D8 ha.2.2) | (rw [jrb]; exact D8 hb.2.2))) <| hk0) v0 c0 ?_
    refine Ag ?_
    refine RK wR [(.int .i64 c), (.int .i64 (F9 a.2.2 b.2.2))] ?_
    exact Same.of_eq (by simp only [Aj]; unfold B9; rw [if_neg c1, if_neg (by simp_all), jc])
theorem Q4a (kind : Int) (a b : List UInt8) (ha : a.length ≤ 4194304) (hb : b.length ≤ 4194304) :
  FnV Tryz.prog 168 [(.int .i64 kind), (.str a), (.str b)] (.tup [(.agg [.str (A7 kind a b).1.1, .str (A7 kind a b).1.2.1, .str (A7 kind a b).1.2.2]), (.agg [.str (A7 kind a b).2.1.1, .str (A7 kind a b).2.1.2.1, .str (A7 kind a b).2.1.2.2]), .int .i64 (A7 kind a b).2.2]) := by
 refine Ba [.cell 6 136, .cell 7 136, .tmp 8] Tryz.func168 rfl Tryz.ntmps168 rfl rfl (fun B F hF => ?_)
 refine Aa [] [0, 1, 2, 6, 7] ?_
 refine Ab ?_
 refine Ae (CS := [(4, ((!decide (kind = 1)) = true → (!decide (kind = 1)) = true)), (5, ((!decide (kind = 1)) = true → (!decide (kind = 1)) = true))]) [15, 16] [1, 2, 6, 7, 17] [] hk0 v0 (by refine cc _ ?_ <| cc _ ?_ c0 <;> simp) ?_
 refine A9 (q := (!decide (kind = 1)) && (!decide (kind = 2))) (by kernel_rfl) (fun c1 => ?_) (fun c1 => ?_)
 ·try simp only [Al] at c1
  refine Aa [] [6, 7, 8] ?_
  refine Ag ?_
  refine RK wR [(.agg [(.str []), (.str []), (.str [])]), (.agg [(.str []), (.str []), (.str [])]), (.int .i64 1)] ?_
  exact Same.of_eq (by simp only [Aj]; unfold A7; first | (rw [if_pos (by omega)]; done) | (rw [if_neg (by omega), if_pos (by omega)]; done) | (rw [if_neg (by omega), if_neg (by omega), Gh (by omega)]; done))
 ·try simp only [Al] at c1
  refine Ai ?_
  refine Ae [] [2, 6, 7, 9, 10] [(7, 9)] (hk 1 Mo (Ns a (by omega)) <| hk0) v0 c0 ?_
  refine Ab ?_
  refine Aa [] [2, 6, 7, 9, 10, 26] ?_
  refine Cj (p := (B7 a) = 0) (by kernel_rfl) (fun c2 => ?_) (fun c2 => ?_)
  ·refine Aa [] [6, 7, 8] ?_
   refine Ag ?_
   refine RK wR [(.agg [(.str []), (.str []), (.str [])]), (.agg [(.str []), (.str []), (.str [])]), (.int .i64 (B7 a))] ?_
   exact Same.of_eq (by simp only [Aj]; unfold A7; first | (rw [if_pos (by omega)]; done) | (rw [if_neg (by omega), if_pos (by omega)]; done) | (rw [if_neg (by omega), if_neg (by omega), Gh (by omega)]; done))
  ·refine Ai ?_
   refine Ae [] [6, 7, 9, 10, 11] [(7, 11)] (hk 1 Mo (Ns b (by omega)) <| hk0) v0 c0 ?_
   refine Cg [] [6, 7, 8] [] hk0 v0 c0 ?_
   refine Ag ?_
   refine RK wR [(.agg [(.str ((Cc a).1)), (.str ((Cc a).2.1)), (.str ((Cc a).2.2))]), (.agg [(.str ((Cc b).1)), (.str ((Cc b).2.1)), (.str ((Cc b).2.2))]), (.int .i64 (B7 b))] ?_
   exact Same.of_eq (by simp only [Aj]; unfold A7; first | (rw [if_pos (by omega)]; done) | (rw [if_neg (by omega), if_pos (by omega)]; done) | (rw [if_neg (by omega), if_neg (by omega), Gh (by omega)]; done))
theorem G7 (op bit : Int) (h1 : 0 ≤ op ∧ op ≤ 7) (h2 : bit = 1 ∨ bit = 2 ∨ bit = 4) :
  FnV Tryz.prog 182 [(.int .i64 op), (.int .i64 bit)] (.bool (Aq op bit)) := by
 have hq : 0 ≤ Int.tdiv op bit ∧ Int.tdiv op bit ≤ 7 := Q6t h1 h2
 refine Ba [.tmp 4] Tryz.func182 rfl Tryz.ntmps182 rfl rfl (fun B F hF => ?_)
 refine Aa [] [0, 1] ?_
 refine Ae (CS := [(2, (bit ≠ 0 ∧ -9223372036854775808 ≤ Int.tdiv op bit ∧ Int.tdiv op bit ≤ 9223372036854775807)), (3, ((2 : Int) ≠ 0))]) [] [4] [] hk0 v0 (by refine cc _ ?_ <| cc _ ?_ c0 <;> omega) ?_
 refine Ag ?_
 refine RK wR [(.bool (decide ((Int.tmod (Int.tdiv op bit) 2) = 1)))] ?_
 exact Same.of_eq (by first | rfl | (simp only [Aj]; simp_all))
theorem Q37 (k op : Int) (a : List UInt8) (o : Int) (b : List UInt8) (ha : a.length ≤ 4194304) (hb : b.length ≤ 4194304) :
  FnV Tryz.prog 160 [(.int .i64 k), (.int .i64 op), (.str a), (.int .i64 o), (.str b)] (.tup [.bool (A0 k op a o b).1, .int .i64 (A0 k op a o b).2]) := by
 have hbl := Z8 k a b
 refine Ba [.tmp 10, .tmp 11] Tryz.func160 rfl Tryz.ntmps160 rfl rfl (fun B F hF => ?_)
 refine Aa [] [0, 1, 2, 3, 4] ?_
 refine Ab ?_
 refine Ae (CS := [(4, ((!decide (k = 1)) = true → (!decide (k = 1)) = true)), (5, ((!decide (k = 1)) = true → (!decide (k = 1)) = true)), (8, ((!((!decide (k = 1)) && (!decide (k = 2)))) = true → (!((!decide (k = 1)) && (!decide (k = 2)))) = true)), (9, (((!decide (k = 1)) && (!decide (k = 2))) = false → (!((!decide (k = 1)) && (!decide (k = 2)))) = true)), (12, ((!(((!decide (k = 1)) && (!decide (k = 2))) || (decide (op < 0)))) = true → (!(((!decide (k = 1)) && (!decide (k = 2))) || (decide (op < 0)))) = true)), (13, ((((!decide (k = 1)) && (!decide (k = 2))) || (decide (op < 0))) = false → (!(((!decide (k = 1)) && (!decide (k = 2))) || (decide (op < 0)))) = true)), (16, ((!((((!decide (k = 1)) && (!decide (k = 2))) || (decide (op < 0))) || (decide (7 < op)))) = true → (!((((!decide (k = 1)) && (!decide (k = 2))) || (decide (op < 0))) || (decide (7 < op)))) = true)), (17, (((((!decide (k = 1)) && (!decide (k = 2))) || (decide (op < 0))) || (decide (7 < op))) = false → (!((((!decide (k = 1)) && (!decide (k = 2))) || (decide (op < 0))) || (decide (7 < op)))) = true)), (20, ((!(((((!decide (k = 1)) && (!decide (k = 2))) || (decide (op < 0))) || (decide (7 < op))) || (decide (o < 0)))) = true → (!(((((!decide (k = 1)) && (!decide (k = 2))) || (decide (op < 0))) || (decide (7 < op))) || (decide (o < 0)))) = true)), (21, ((((((!decide (k = 1)) && (!decide (k = 2))) || (decide (op < 0))) || (decide (7 < op))) || (decide (o < 0))) = false → (!(((((!decide (k = 1)) && (!decide (k = 2))) || (decide (op < 0))) || (decide (7 < op))) || (decide (o < 0)))) = true))]) [20, 21, 24, 25, 28, 29, 32, 33, 36, 37] [0, 1, 2, 3, 4, 38] [] hk0 v0 (by refine cc _ ?_ <| cc _ ?_ <| cc _ ?_ <| cc _ ?_ <| cc _ ?_ <| cc _ ?_ <| cc _ ?_ <| cc _ ?_ <| cc _ ?_ <| cc _ ?_ c0 <;> first | omega | (simp; omega) | (simp; done) | (intros; simp_all; omega) | (intros; simp_all; done)) ?_
 refine A9 (q := (((((!decide (k = 1)) && (!decide (k = 2))) || (decide (op < 0))) || (decide (7 < op))) || (decide (o < 0))) || (decide (7 < o))) (by kernel_rfl) (fun c1 => ?_) (fun c1 => ?_)
 ·try simp only [Al] at c1
  refine Aa [] [10, 11] ?_
  refine Ag ?_
  refine RK wR [(.bool false), (.int .i64 1)] ?_
  refine Same.of_eq ?_
  simp only [Aj]
  rw [show A0 k op a o b = (false, 1) from by unfold A0; rw [if_pos (by omega)]]
 ·try simp only [Al] at c1
  refine Ai ?_
  refine Ab ?_
  refine Ae (CS := [(4, ((!(decide (op = 0))) = true → (!(decide (op = 0))) = true)), (5, ((decide (op = 0)) = false → (!(decide (op = 0))) = true))]) [42, 43] [0, 1, 2, 3, 4, 44] [] hk0 v0 (by refine cc _ ?_ <| cc _ ?_ c0 <;> simp) ?_
  refine A9 (q := (decide (op = 0)) || (decide (o = 0))) (by kernel_rfl) (fun c2 => ?_) (fun c2 => ?_)
  ·try simp only [Al] at c2
   refine Aa [] [10, 11] ?_
   refine Ag ?_
   refine RK wR [(.bool true), (.int .i64 0)] ?_
   refine Same.of_eq ?_
   simp only [Aj]
   rw [show A0 k op a o b = (true, 0) from by unfold A0; rw [if_neg (by omega), if_pos (by omega)]]
  ·try simp only [Al] at c2
   refine Ai ?_
   refine Ae [] [0, 1, 3, 12, 13, 14] [(11, 12), (12, 13)] (hk 3 Q8j (Q4a k a b (by omega) (by omega)) <| hk0) v0 c0 ?_
   refine Ab ?_
   refine Aa [] [0, 1, 3, 12, 13, 14, 54] ?_
   refine Cj (p := ((A7 k a b).2.2) = 0) (by kernel_rfl) (fun c3 => ?_) (fun c3 => ?_)
   ·refine Aa [] [10, 11] ?_
    refine Ag ?_
    refine RK wR [(.bool false), (.int .i64 ((A7 k a b).2.2))] ?_
    refine Same.of_eq ?_
    simp only [Aj]
    rw [show A0 k op a o b = (false, (A7 k a b).2.2) from by unfold A0; rw [if_neg (by omega), if_neg (by omega), if_pos (by omega)]]
   ·refine Ai ?_
    refine Ae [] [1, 3, 12, 13, 15, 16] [] (hk 3 Q8i (Q33 k (A7 k a b).1 (A7 k a b).2.1 ⟨by omega, by omega, by omega⟩ ⟨by omega, by omega, by omega⟩) <| hk0) v0 c0 ?_
    refine C7 (fun y => ∃ (c : Int), c = Jm (A7 k a b).1.2.2 (A7 k a b).2.1.2.2 (B9 k (A7 k a b).1 (A7 k a b).2.1).1 (B9 k (A7 k a b).1 (A7 k a b).2.1).2 ∧ y = ⟨[(1, (.int .i64 op)), (3, (.int .i64 o)), (15, (.int .i64 c))], [], 2⟩) [1, 3, 15] 2 (by omega) ?_ ?_
    ·refine Ae (CS := [(4, ((decide (((B9 k (A7 k a b).1 (A7 k a b).2.1).1) = 0)) = true → (decide (((B9 k (A7 k a b).1 (A7 k a b).2.1).1) = 0)) = true)), (5, ((decide (((B9 k (A7 k a b).1 (A7 k a b).2.1).1) = 0)) = true → (decide (((B9 k (A7 k a b).1 (A7 k a b).2.1).1) = 0)) = true)), (6, ((decide (((B9 k (A7 k a b).1 (A7 k a b).2.1).1) = 0)) = true → (decide (((B9 k (A7 k a b).1 (A7 k a b).2.1).1) = 0)) = true)), (9, (((decide (((B9 k (A7 k a b).1 (A7 k a b).2.1).1) = 0)) && (!decide (((A7 k a b).1).2.2 = []))) = true → ((decide (((B9 k (A7 k a b).1 (A7 k a b).2.1).1) = 0)) && (!decide (((A7 k a b).1).2.2 = []))) = true)), (10, (((decide (((B9 k (A7 k a b).1 (A7 k a b).2.1).1) = 0)) && (!decide (((A7 k a b).1).2.2 = []))) = true → ((decide (((B9 k (A7 k a b).1 (A7 k a b).2.1).1) = 0)) && (!decide (((A7 k a b).1).2.2 = []))) = true)), (11, (((decide (((B9 k (A7 k a b).1 (A7 k a b).2.1).1) = 0)) && (!decide (((A7 k a b).1).2.2 = []))) = true → ((decide (((B9 k (A7 k a b).1 (A7 k a b).2.1).1) = 0)) && (!decide (((A7 k a b).1).2.2 = []))) = true))]) [66, 67, 68, 71, 72, 73] [1, 3, 15, 16, 74] [] hk0 v0 (by refine cc _ ?_ <| cc _ ?_ <| cc _ ?_ <| cc _ ?_ <| cc _ ?_ <| cc _ ?_ c0 <;> simp) ?_
     refine A9 (q := ((decide (((B9 k (A7 k a b).1 (A7 k a b).2.1).1) = 0)) && (!decide (((A7 k a b).1).2.2 = []))) && (!decide (((A7 k a b).2.1).2.2 = []))) (by kernel_rfl) (fun c4 => ?_) (fun c4 => ?_)
     ·try simp only [Al] at c4
      refine Ar ?_
      refine D4 [] [1, 3, 15] ?_
      refine ⟨by kernel_rfl, ((B9 k (A7 k a b).1 (A7 k a b).2.1).2), ?_, (by kernel_rfl)⟩
      unfold Jm
      rw [if_pos (by simp_all)]
     ·try simp only [Al] at c4
      refine Ai ?_
      refine ⟨by kernel_rfl, ((B9 k (A7 k a b).1 (A7 k a b).2.1).1), ?_, (by kernel_rfl)⟩
      unfold Jm
      rw [if_neg (fun q => by simp [q.1, q.2.1, q.2.2] at c4)]
    ·rintro y1 ⟨c, jc, rfl⟩
     refine Ab ?_
     refine Aa [] [1, 3, 15, 77] ?_
     refine A8 (p := c < 0) (by kernel_rfl) (fun c5 => ?_) (fun c5 => ?_)
     ·refine Ae (CS := [(4, (!(Aq op 4)) = true → (!(Aq op 4)) = true), (5, ((Aq op 4) = false → (!(Aq op 4)) = true))]) [81] [10, 11] [] (hk 1 Hj (G7 op 4 (by omega) (by omega)) <| hkg 4 (!(Aq op 4)) Hj (fun cg => G7 o 1 (by omega) (by omega)) <| hk0) v0 (by refine cc _ ?_ <| cc _ ?_ c0 <;> simp) ?_
      refine Ag ?_
      refine RK wR [(.bool ((Aq op 4) || (Aq o 1))), (.int .i64 0)] ?_
      refine Same.of_eq ?_
      simp only [Aj]
      rw [show A0 k op a o b = (Fq (Fp k a b) op o, 0) from by unfold A0; rw [if_neg (by omega), if_neg (by omega), if_neg (by omega)]]
      rw [show Fp k a b = c from jc.symm]
      unfold Fq
      rw [if_pos (by omega), Ok (by omega) (.inr rfl), Ok (by omega) (.inl rfl)]
     ·refine Ai ?_
      refine Ab ?_
      refine Aa [] [1, 3, 85] ?_
      refine A8 (p := 0 < c) (by kernel_rfl) (fun c6 => ?_) (fun c6 => ?_)
      ·refine Ae (CS := [(4, (!(Aq op 1)) = true → (!(Aq op 1)) = true), (5, ((Aq op 1) = false → (!(Aq op 1)) = true))]) [89] [10, 11] [] (hk 1 Hj (G7 op 1 (by omega) (by omega)) <| hkg 4 (!(Aq op 1)) Hj (fun cg => G7 o 4 (by omega) (by omega)) <| hk0) v0 (by refine cc _ ?_ <| cc _ ?_ c0 <;> simp) ?_
       refine Ag ?_
       refine RK wR [(.bool ((Aq op 1) || (Aq o 4))), (.int .i64 0)] ?_
       refine Same.of_eq ?_
       simp only [Aj]
       rw [show A0 k op a o b = (Fq (Fp k a b) op o, 0) from by unfold A0; rw [if_neg (by omega), if_neg (by omega), if_neg (by omega)]]
       rw [show Fp k a b = c from jc.symm]
       unfold Fq
       rw [if_neg (by omega), if_pos (by omega), Ok (by omega) (.inl rfl), Ok (by omega) (.inr rfl)]
      ·refine Ai ?_
       have qh1 : (((Aq op 2) = true → (Aq op 2) = true)) := by
        first | omega | (intro hq; simpa using hq) | (simp; done) | (cases Aq op 2 <;> cases Aq o 2 <;> cases Aq op 1 <;> cases Aq o 1 <;> cases Aq op 4 <;> simp)
       have qh2 : (((!((Aq op 2) && (Aq o 2))) = true → (!((Aq op 2) && (Aq o 2))) = true)) := by
        first | omega | (intro hq; simpa using hq) | (simp; done) | (cases Aq op 2 <;> cases Aq o 2 <;> cases Aq op 1 <;> cases Aq o 1 <;> cases Aq op 4 <;> simp)
       have qh3 : (((!((Aq op 2) && (Aq o 2))) = true → ((!((Aq op 2) && (Aq o 2))) = true) ∧ ((Aq op 1) = true → ((!((Aq op 2) && (Aq o 2))) && (Aq op 1)) = true))) ∧ ((((Aq op 2) && (Aq o 2)) = false → (!((Aq op 2) && (Aq o 2))) = true)) := by
        first | omega | (intro hq; simpa using hq) | (simp; done) | (cases Aq op 2 <;> cases Aq o 2 <;> cases Aq op 1 <;> cases Aq o 1 <;> cases Aq op 4 <;> simp)
       have qh4 : (((!(((Aq op 2) && (Aq o 2)) || ((Aq op 1) && (Aq o 1)))) = true → (!(((Aq op 2) && (Aq o 2)) || ((Aq op 1) && (Aq o 1)))) = true)) := by
        first | omega | (intro hq; simpa using hq) | (simp; done) | (cases Aq op 2 <;> cases Aq o 2 <;> cases Aq op 1 <;> cases Aq o 1 <;> cases Aq op 4 <;> simp)
       have qh5 : (((!(((Aq op 2) && (Aq o 2)) || ((Aq op 1) && (Aq o 1)))) = true → ((!(((Aq op 2) && (Aq o 2)) || ((Aq op 1) && (Aq o 1)))) = true) ∧ ((Aq op 4) = true → ((!(((Aq op 2) && (Aq o 2)) || ((Aq op 1) && (Aq o 1)))) && (Aq op 4)) = true))) ∧ (((((Aq op 2) && (Aq o 2)) || ((Aq op 1) && (Aq o 1))) = false → (!(((Aq op 2) && (Aq o 2)) || ((Aq op 1) && (Aq o 1)))) = true)) := by
        first | omega | (intro hq; simpa using hq) | (simp; done) | (cases Aq op 2 <;> cases Aq o 2 <;> cases Aq op 1 <;> cases Aq o 1 <;> cases Aq op 4 <;> simp)
       refine Ae [95, 99, 101, 102, 104, 107, 109, 110, 112] [10, 11] [] (hk 1 Hj (G7 op 2 (by omega) (by omega)) <| hkg 4 (Aq op 2) Hj (fun cg => G7 o 2 (by omega) (by omega)) <| hkg 8 (!((Aq op 2) && (Aq o 2))) Hj (fun cg => G7 op 1 (by omega) (by omega)) <| hkg 11 ((!((Aq op 2) && (Aq o 2))) && (Aq op 1)) Hj (fun cg => G7 o 1 (by omega) (by omega)) <| hkg 16 (!(((Aq op 2) && (Aq o 2)) || ((Aq op 1) && (Aq o 1)))) Hj (fun cg => G7 op 4 (by omega) (by omega)) <| hkg 19 ((!(((Aq op 2) && (Aq o 2)) || ((Aq op 1) && (Aq o 1)))) && (Aq op 4)) Hj (fun cg => G7 o 4 (by omega) (by omega)) <| hk0) v0 (cc 4 (p := (Aq op 2) = true → (Aq op 2) = true) (by omega) <| cc 5 (p := ((Aq op 2) = true → (Aq op 2) = true)) qh1 <| cc 8 (p := (!((Aq op 2) && (Aq o 2))) = true → (!((Aq op 2) && (Aq o 2))) = true) (by omega) <| cc 9 (p := ((!((Aq op 2) && (Aq o 2))) = true → (!((Aq op 2) && (Aq o 2))) = true)) qh2 <| cc 11 (p := ((!((Aq op 2) && (Aq o 2))) && (Aq op 1)) = true → ((!((Aq op 2) && (Aq o 2))) && (Aq op 1)) = true) (by simp) <| cc 12 (p := ((!((Aq op 2) && (Aq o 2))) = true → ((!((Aq op 2) && (Aq o 2))) = true) ∧ ((Aq op 1) = true → ((!((Aq op 2) && (Aq o 2))) && (Aq op 1)) = true))) qh3.1 <| cc 13 (p := (((Aq op 2) && (Aq o 2)) = false → (!((Aq op 2) && (Aq o 2))) = true)) qh3.2 <| cc 16 (p := (!(((Aq op 2) && (Aq o 2)) || ((Aq op 1) && (Aq o 1)))) = true → (!(((Aq op 2) && (Aq o 2)) || ((Aq op 1) && (Aq o 1)))) = true) (by omega) <| cc 17 (p := ((!(((Aq op 2) && (Aq o 2)) || ((Aq op 1) && (Aq o 1)))) = true → (!(((Aq op 2) && (Aq o 2)) || ((Aq op 1) && (Aq o 1)))) = true)) qh4 <| cc 19 (p := ((!(((Aq op 2) && (Aq o 2)) || ((Aq op 1) && (Aq o 1)))) && (Aq op 4)) = true → ((!(((Aq op 2) && (Aq o 2)) || ((Aq op 1) && (Aq o 1)))) && (Aq op 4)) = true) (by simp) <| cc 20 (p := ((!(((Aq op 2) && (Aq o 2)) || ((Aq op 1) && (Aq o 1)))) = true → ((!(((Aq op 2) && (Aq o 2)) || ((Aq op 1) && (Aq o 1)))) = true) ∧ ((Aq op 4) = true → ((!(((Aq op 2) && (Aq o 2)) || ((Aq op 1) && (Aq o 1)))) && (Aq op 4)) = true))) qh5.1 <| cc 21 (p := ((((Aq op 2) && (Aq o 2)) || ((Aq op 1) && (Aq o 1))) = false → (!(((Aq op 2) && (Aq o 2)) || ((Aq op 1) && (Aq o 1)))) = true)) qh5.2 <| c0) ?_
       refine Ag ?_
       refine RK wR [(.bool ((((Aq op 2) && (Aq o 2)) || ((Aq op 1) && (Aq o 1))) || ((Aq op 4) && (Aq o 4)))), (.int .i64 0)] ?_
       refine Same.of_eq ?_
       simp only [Aj]
       rw [show A0 k op a o b = (Fq (Fp k a b) op o, 0) from by unfold A0; rw [if_neg (by omega), if_neg (by omega), if_neg (by omega)]]
       rw [show Fp k a b = c from jc.symm]
       unfold Fq
       rw [if_neg (by omega), if_neg (by omega), Bool.or_assoc, Q6u (by omega) (by omega)]
end Sv
end Go.Proofs.YtlfjokcbkopfeaaGreatDoor
end
section
namespace Go.Proofs.YtlfjokcbkopfeaaGreatDoor
open Go Go.RowKit
namespace Sv
theorem Q96 {x : Int} {l : List Int} : x ∈ Lib.compact l ↔ x ∈ l := by
  constructor
  · intro h
    unfold Lib.compact Lib.compactUpTo at h
    obtain ⟨i, hi, rfl⟩ := List.mem_map.1 h
    have hi := (List.mem_filter.1 hi).1
    rw [List.mem_range] at hi
    simp [getElem!_pos, hi]
  · intro h
    obtain ⟨i, hi, rfl⟩ := List.getElem_of_mem h
    unfold Lib.compact Lib.compactUpTo
    induction i with
    | zero => exact List.mem_map.2 ⟨0, List.mem_filter.2 ⟨by simpa using hi, Lib.keeps_lt_one _ 0 (by omega)⟩, by simp [hi]⟩
    | succ i ih =>
      cases hk : Lib.keeps l.toArray (i + 1) with
      | true => exact List.mem_map.2 ⟨i + 1, List.mem_filter.2 ⟨by simpa using hi, hk⟩, by simp [hi]⟩
      | false =>
        have e : l[i + 1] = l[i] := by
          unfold Lib.keeps at hk
          simp at hk
          have hi' : i < l.length := by omega
          simpa [hi, hi'] using hk
        rw [e]
        exact ih (by omega) (List.getElem_mem _)
def E3 (k : Int) (d : DepT) (op : Int) (ev : List UInt8) : Bool := if d.op = 0 then true else if op = 0 then false else (A0 k d.op d.evr op ev).1
theorem Oo {k : Int} {d : DepT} {o : OfferT} : H1 A0 k d o = E3 k d o.op o.evr := by
  unfold H1 E3
  by_cases h : d.op = 0
  · rw [if_pos (.inl h), if_pos h, decide_eq_true h]
  · by_cases q : o.op = 0
    · rw [if_pos (.inr q), if_neg h, if_pos q, decide_eq_false h]
    · rw [if_neg (by simp [h, q]), if_neg h, if_neg q]
def Ge (k : Int) (p : PkgT) (d : DepT) : Bool := decide (p.name = d.name) && E3 k d 2 p.evr
theorem Kp {i : Nat} {p : PkgT} {q : List UInt8 × OfferT} (h : q ∈ D6 i p) : q.2.id = (i : Int) := by
  unfold D6 Cl Cz at h
  rw [List.take_length, List.take_length] at h
  rcases List.mem_append.1 h with h | h
  · rcases List.mem_cons.1 h with rfl | h
    · rfl
    · obtain ⟨d, _, rfl⟩ := List.mem_map.1 h; rfl
  · obtain ⟨f, _, rfl⟩ := List.mem_map.1 h; rfl
theorem namedL_mem {st : PoolT} {d : DepT} {own : Bool} {x : Int} : x ∈ Dz A0 st d own ↔ ∃ i, i < st.all.length ∧ x = (i : Int) ∧ ∃ q ∈ D6 i (nth st.all i).1, q.1 = d.name ∧ Fs A0 st d own q.2 = true := by
  unfold Dz
  rw [Q96]
  unfold C8
  rw [List.take_length]
  constructor
  · intro h
    obtain ⟨o, ho, rfl⟩ := List.mem_map.1 h
    obtain ⟨h1, h2⟩ := List.mem_filter.1 ho
    unfold B8 at h1
    obtain ⟨q, hq, rfl⟩ := List.mem_map.1 h1
    obtain ⟨h3, h4⟩ := List.mem_filter.1 hq
    unfold Bc at h3
    obtain ⟨i, hi, h5⟩ := List.mem_flatMap.1 h3
    exact ⟨i, by simpa using hi, Kp h5, q, h5, by simpa using h4, h2⟩
  · rintro ⟨i, hi, rfl, q, hq, h1, h2⟩
    refine List.mem_map.2 ⟨q.2, List.mem_filter.2 ⟨?_, h2⟩, Kp hq⟩
    unfold B8
    refine List.mem_map.2 ⟨q, List.mem_filter.2 ⟨?_, by simp [h1]⟩, rfl⟩
    unfold Bc
    exact List.mem_flatMap.2 ⟨i, by simpa using hi, hq⟩
theorem V5 {st : PoolT} {d : DepT} {x : Int} (hx : 0 ≤ x ∧ x < st.all.length) : x ∈ Dz A0 st d true ↔ Ge st.kind (nth st.all x.toNat).1 d = true := by
  rw [namedL_mem]
  constructor
  · rintro ⟨i, hi, rfl, q, hq, h1, h2⟩
    unfold D6 Cl Cz at hq
    rw [List.take_length, List.take_length] at hq
    have ho : q.2.own = true := by unfold Fs at h2; cases k : q.2.own <;> simp_all
    have hf : H1 A0 st.kind d q.2 = true := by unfold Fs at h2; simp only [Bool.and_eq_true] at h2; exact h2.2
    rcases List.mem_append.1 hq with hq | hq
    · rcases List.mem_cons.1 hq with rfl | hq
      · rw [Oo] at hf
        unfold Ge
        rw [show ((i : Nat) : Int).toNat = i from rfl, decide_eq_true h1]
        exact hf
      · obtain ⟨e, _, rfl⟩ := List.mem_map.1 hq; cases ho
    · obtain ⟨f, _, rfl⟩ := List.mem_map.1 hq; cases ho
  · intro h
    unfold Ge at h
    simp only [Bool.and_eq_true, decide_eq_true_eq] at h
    refine ⟨x.toNat, by omega, by omega, ((nth st.all x.toNat).1.name, ⟨(x.toNat : Nat), true, 2, (nth st.all x.toNat).1.evr⟩), ?_, h.1, ?_⟩
    · unfold D6 Cl Cz
      exact List.mem_append_left _ List.mem_cons_self
    · unfold Fs
      rw [Oo]
      simpa using h.2
theorem Q3n {l : List Nat} (h : l.Pairwise (· < ·)) : Ic (l.map fun (k : Nat) => (k : Int)) := by
  induction l with
  | nil => trivial
  | cons a l ih =>
    rw [List.pairwise_cons] at h
    refine ⟨fun y hy => ?_, ih h.2⟩
    obtain ⟨z, hz, rfl⟩ := List.mem_map.1 hy
    have := h.1 z hz
    show (a : Int) < (z : Int)
    omega
end Sv
end Go.Proofs.YtlfjokcbkopfeaaGreatDoor
end
section
namespace Go.Proofs.YtlfjokcbkopfeaaGreatDoor
open Go Go.RowKit
namespace Sv
attribute [local irreducible] SW SO Bg
set_option maxHeartbeats 1000000
set_option maxRecDepth 100000
theorem Rx : As Tryz.prog 63 := Ax Tryz.func63 (by kernel_rfl) rfl
theorem Q7y : As Tryz.prog 65 := Ax Tryz.func65 (by kernel_rfl) rfl
theorem Zi : As Tryz.prog 123 := Ax Tryz.func123 (by kernel_rfl) rfl
theorem Yq : As Tryz.prog 64 := Ax Tryz.func64 (by kernel_rfl) rfl
theorem R2 : As Tryz.prog 20 := Ax Tryz.func20 (by kernel_rfl) rfl
theorem X0u {st : PoolT} {pl : List (Int × Int)} (h : Id st pl) {i : Nat} (hi : i < st.all.length) : nth (nth st.repos (nth pl i).1.toNat).pkgs (nth pl i).2.toNat = (nth st.all i).1 := (h.2 i hi).2.2.2.2.1
theorem Q6c {n : Nat} {l : List Int} (h : ∀ j, j < l.length → 0 ≤ nth l j ∧ nth l j < n) : (l.all fun x => decide (0 ≤ x) && decide (x < n)) = true := by
 rw [List.all_eq_true]
 intro x hx
 obtain ⟨j, hj, rfl⟩ := List.getElem_of_mem hx
 have := h j hj
 rw [Gd hj] at this
 simp [this.1, this.2]
theorem Q6d {n : Nat} {l : List Int} {i : Nat} (hi : i < l.length) (h : ¬ (0 ≤ nth l i ∧ nth l i < n)) : (l.all fun x => decide (0 ≤ x) && decide (x < n)) = false := by
 rw [List.all_eq_false]
 refine ⟨nth l i, by rw [Gd hi]; exact List.getElem_mem hi, ?_⟩
 simp only [Bool.and_eq_true, decide_eq_true_eq]; exact h
theorem Ql (st : PoolT) (pl : List (Int × Int)) (h : Id st pl) (i : Nat) (hi : i < st.all.length) :
  FnV Tryz.prog 63 [(.fp (C0 st pl)), (.int .i64 ((i : Int)))] (Ak ((nth st.all i).1)) := by
 have hp := h.2 i hi
 have hl := h.1
 refine Ba [.cell 4 38] Tryz.func63 rfl Tryz.ntmps63 rfl rfl (fun B F hF => ?_)
 refine Aa [] [0, 1, 4] ?_
 refine Cg (CS := [(9, (0 ≤ (i : Int) ∧ i < pl.length)), (10, (0 ≤ (0 : Int) ∧ 0 < 2)), (12, (0 ≤ (nth pl i).1 ∧ ((nth pl i).1).toNat < st.repos.length)), (20, (0 ≤ (i : Int) ∧ i < pl.length)), (21, (0 ≤ (1 : Int) ∧ 1 < 2)), (23, (0 ≤ (nth pl i).2 ∧ ((nth pl i).2).toNat < ((nth st.repos (((nth pl i).1).toNat)).pkgs).length))]) [] [4] [] hk0 v0 (by refine cc _ ?_ <| cc _ ?_ <| cc _ ?_ <| cc _ ?_ <| cc _ ?_ <| cc _ ?_ c0 <;> omega) ?_
 refine Ag ?_
 refine RK wR [(Ak (nth ((nth st.repos (((nth pl i).1).toNat)).pkgs) (((nth pl i).2).toNat)))] ?_
 exact Same.of_eq (by simp only [Aj]; rw [← X0u h hi])
theorem Q38 (st : PoolT) (pl : List (Int × Int)) (id : Int) :
  FnV Tryz.prog 65 [(.fp (C0 st pl)), (.int .i64 id)] (.bool (decide (0 ≤ id) && decide (id < (pl.length : Int)))) := by
 refine Ba [.tmp 4] Tryz.func65 rfl Tryz.ntmps65 rfl rfl (fun B F hF => ?_)
 refine Aa [] [0, 1] ?_
 obtain ⟨b1, hb1⟩ : ∃ b, b = (decide (0 ≤ id)) := ⟨_, rfl⟩
 refine Ae (CS := [(5, (b1 = true → b1 = true)), (6, (b1 = true → b1 = true)), (7, (b1 = true → b1 = true)), (8, (b1 = true → b1 = true)), (9, (b1 = true → b1 = true ∧ b1 = true)), (10, (b1 = true → b1 = true))]) [8, 9, 10, 11, 12, 13, 14] [4] [] hk0 (vk 3 7 (a := .bool (decide (0 ≤ id))) (b := .bool b1) (Imp.of_eq (by rw [hb1])) <| v0) (by refine cc _ ?_ <| cc _ ?_ <| cc _ ?_ <| cc _ ?_ <| cc _ ?_ <| cc _ ?_ c0 <;> simp) ?_
 refine Ag ?_
 refine RK wR [(.bool (b1 && (decide (id < (pl.length : Int)))))] ?_
 subst hb1
 exact Same.of_eq (by first | rfl | (simp only [Aj]; simp_all))
theorem Qo (st : PoolT) (pl : List (Int × Int)) (l : List Int) (hl : l.length ≤ 4611686018427) :
  FnV Tryz.prog 20 [(.fp (C0 st pl)), (Bu l)] (.bool (l.all fun x => decide (0 ≤ x) && decide (x < (pl.length : Int)))) := by
 refine Ba [.tmp 4] Tryz.func20 rfl Tryz.ntmps20 rfl rfl (fun B F hF => ?_)
 refine Aa [] [0, 1] ?_
 refine Ab ?_
 refine Aa [] [0, 1, 5] ?_
 refine A3 ?_
 refine Bs (fun g y => ∃ (i : Nat), i ≤ l.length ∧ (∀ j, j < i → 0 ≤ nth l j ∧ nth l j < (pl.length : Int)) ∧ y = ⟨[(0, (.fp (C0 st pl))), (1, (Bu l)), (5, (.int .i64 ((i : Int))))], [], 0⟩ ∧ g = l.length - i) [0, 1, 5] 0 _ (by omega) ⟨0, (by omega), (by exact fun j hj => by omega), (by kernel_rfl), rfl⟩ ?_
 rintro g1 y1 ⟨i, f1_1, f1_2, rfl, rfl⟩
 refine Ab ?_
 refine Aa [] [0, 1, 5, 10] ?_
 refine A8 (p := (i : Int) < (l.length : Int)) (by kernel_rfl) (fun c1 => ?_) (fun c1 => ?_)
 ·refine Ai ?_
  refine Ab ?_
  refine A3 ?_
  refine Ae [] [0, 1, 5, 6] [] (hk 5 Q7y (Q38 st pl (nth l i)) <| hk0) v0 (cc 3 (p := (0 ≤ (i : Int) ∧ i < l.length)) (by omega) <| c0) ?_
  refine Aa [] [0, 1, 5, 20] ?_
  refine A9 (q := !(decide (0 ≤ (nth l i)) && decide ((nth l i) < (pl.length : Int)))) (by kernel_rfl) (fun c2 => ?_) (fun c2 => ?_)
  ·try simp only [Al] at c2
   refine Aa [] [4] ?_
   refine Ag ?_
   refine RK wR [(.bool false)] ?_
   exact Same.of_eq (by simp only [Aj]; rw [Q6d (i := i) (by omega) (by intro q; simp [q.1, q.2] at c2)])
  ·try simp only [Al] at c2
   refine Ai ?_
   refine Ar ?_
   refine A2 0 [] [0, 1, 5] [] hk0 v0 (cc 1 (p := (-9223372036854775808 ≤ (i : Int) + 1 ∧ (i : Int) + 1 ≤ 9223372036854775807)) (by omega) <| c0) ?_
   refine ⟨by kernel_rfl, _, ?_, i + 1, ?_, ?_, (by kernel_rfl), rfl⟩
   ·omega
   ·omega
   ·intro j hj
    by_cases h : j = i
    ·subst h; simp_all
    ·exact f1_2 j (by omega)
 ·refine Bl ?_
  refine Aa [] [4] ?_
  refine Ag ?_
  refine RK wR [(.bool true)] ?_
  exact Same.of_eq (by simp only [Aj]; rw [Q6c fun j hj => f1_2 j (by omega)])
theorem U0 (k : Int) (d : DepT) (op : Int) (ev : List UInt8) (hd : d.evr.length ≤ 4194304) (he : ev.length ≤ 4194304) :
  FnV Tryz.prog 123 [(.int .i64 k), (.agg [(.int .i64 d.kind), (.str d.name), (.int .i64 d.op), (.str d.evr), (.row 5 d.args.length (depAt d.args))]), (.int .i64 op), (.str ev)] (.bool (E3 k d op ev)) := by
 refine Ba [.tmp 8] Tryz.func123 rfl Tryz.ntmps123 rfl rfl (fun B F hF => ?_)
 refine Ae [] [0, 2, 3, 5] [(1, 5)] hk0 v0 c0 ?_
 refine Ab ?_
 refine Aa [] [0, 2, 3, 5, 13] ?_
 refine A8 (p := d.op = 0) (by kernel_rfl) (fun c1 => ?_) (fun c1 => ?_)
 ·refine Aa [] [8] ?_
  refine Ag ?_
  refine RK wR [(.bool true)] ?_
  exact Same.of_eq (by simp only [Aj]; unfold E3; rw [if_pos (by assumption)])
 ·refine Ai ?_
  refine Ab ?_
  refine Aa [] [0, 2, 3, 5, 15] ?_
  refine A8 (p := op = 0) (by kernel_rfl) (fun c2 => ?_) (fun c2 => ?_)
  ·refine Aa [] [8] ?_
   refine Ag ?_
   refine RK wR [(.bool false)] ?_
   exact Same.of_eq (by simp only [Aj]; unfold E3; rw [if_neg (by assumption), if_pos (by assumption)])
  ·refine Ai ?_
   refine Ae [] [9] [] (hk 7 Q8k (Q37 k d.op d.evr op ev (by omega) (by omega)) <| hk0) v0 c0 ?_
   refine Aa [] [8] ?_
   refine Ag ?_
   refine RK wR [(.bool ((A0 k d.op d.evr op ev).1))] ?_
   exact Same.of_eq (by simp only [Aj]; unfold E3; rw [if_neg (by assumption), if_neg (by assumption)])
theorem U7 (k : Int) (p : PkgT) (d : DepT) (hd : d.evr.length ≤ 4194304) (he : p.evr.length ≤ 4194304) :
  FnV Tryz.prog 64 [(.int .i64 k), (Ak p), (.agg [(.int .i64 d.kind), (.str d.name), (.int .i64 d.op), (.str d.evr), (.row 5 d.args.length (depAt d.args))])] (.bool (Ge k p d)) := by
 refine Ba [.tmp 6] Tryz.func64 rfl Tryz.ntmps64 rfl rfl (fun B F hF => ?_)
 refine Ae [] [0, 4, 5] [(1, 4), (2, 5)] hk0 v0 c0 ?_
 obtain ⟨b1, hb1⟩ : ∃ b, b = (decide (p.name = d.name)) := ⟨_, rfl⟩
 refine Ae (CS := [(9, (b1 = true → b1 = true)), (10, b1 = true → b1 = true ∧ b1 = true ∧ b1 = true), (11, (b1 = true → b1 = true))]) [13, 14, 15, 16] [6] [] (hkg 10 b1 Zi (fun cg => U0 k d 2 p.evr hd he) <| hk0) (vk 6 12 (a := .bool (decide (p.name = d.name))) (b := .bool b1) (Imp.of_eq (by rw [hb1])) <| v0) (by refine cc _ ?_ <| cc _ ?_ <| cc _ ?_ c0 <;> simp) ?_
 refine Ag ?_
 refine RK wR [(.bool (b1 && (E3 k d 2 p.evr)))] ?_
 subst hb1
 exact Same.of_eq (by simp only [Aj]; rfl)
end Sv
end Go.Proofs.YtlfjokcbkopfeaaGreatDoor
end
section
namespace Go.Proofs.YtlfjokcbkopfeaaGreatDoor
open Go Go.RowKit
namespace Sv
attribute [local irreducible] SW SO Bg
set_option maxHeartbeats 1000000
set_option maxRecDepth 100000
theorem Q87 : As Tryz.prog 122 := Ax Tryz.func122 (by kernel_rfl) rfl
theorem Mn : As Tryz.prog 62 := Ax Tryz.func62 (by kernel_rfl) rfl
theorem Q8d : As Tryz.prog 18 := Ax Tryz.func18 (by kernel_rfl) rfl
theorem Q8b : As Tryz.prog 19 := Ax Tryz.func19 (by kernel_rfl) rfl
theorem It : As Tryz.prog 21 := Ax Tryz.func21 (by kernel_rfl) rfl
def Hz (k : Int) (p : PkgT) (d : DepT) : Bool := Ge k p d || ((p.provides.any fun q => decide (q.name = d.name) && E3 k d q.op q.evr) || (p.files.any fun f => decide (f = d.name) && decide (d.op = 0)))
theorem Lj {α : Type} [Inhabited α] {f : α → Bool} {l : List α} {i : Nat} (h : i < l.length) (k : f (nth l i) = true) : l.any f = true := List.any_eq_true.2 ⟨_, by rw [Gd h]; exact List.getElem_mem h, k⟩
theorem Li {α : Type} [Inhabited α] {f : α → Bool} {l : List α} {n : Nat} (hn : l.length ≤ n) (h : ∀ j, j < n → f (nth l j) = false) : l.any f = false := by
 rw [List.any_eq_false]
 intro x hx
 obtain ⟨j, hj, rfl⟩ := List.getElem_of_mem hx
 have := h j (by omega)
 rw [Gd hj] at this
 simp [this]
theorem Q5o {st : PoolT} {d : DepT} {i : Nat} (hi : i < st.all.length) : ((Dz A0 st d false).any fun x => decide ((i : Int) = x)) = Hz st.kind (nth st.all i).1 d := by
 rw [Bool.eq_iff_iff, List.any_eq_true]
 constructor
 ·rintro ⟨x, hx, e⟩
  have e : (i : Int) = x := by simpa using e
  subst e
  obtain ⟨j, hj, e, q, hq, h1, h2⟩ := namedL_mem.1 hx
  obtain rfl : i = j := by omega
  have hf : H1 A0 st.kind d q.2 = true := by unfold Fs at h2; simp only [Bool.and_eq_true] at h2; exact h2.2
  rw [Oo] at hf
  unfold D6 Cl Cz at hq
  rw [List.take_length, List.take_length] at hq
  unfold Hz
  simp only [Bool.or_eq_true]
  rcases List.mem_append.1 hq with hq | hq
  ·rcases List.mem_cons.1 hq with rfl | hq
   ·left; unfold Ge; rw [decide_eq_true h1]; exact hf
   ·obtain ⟨a, ha, rfl⟩ := List.mem_map.1 hq
    right; left; rw [List.any_eq_true]; exact ⟨a, ha, by rw [decide_eq_true h1]; exact hf⟩
  ·obtain ⟨a, ha, rfl⟩ := List.mem_map.1 hq
   right; right; rw [List.any_eq_true]
   refine ⟨a, ha, ?_⟩
   unfold E3 at hf
   by_cases h0 : d.op = 0
   ·simp [h0, show a = d.name from h1]
   ·rw [if_neg h0, if_pos rfl] at hf; cases hf
 ·intro h
  have key : ∀ q : List UInt8 × OfferT, q ∈ D6 i (nth st.all i).1 → q.1 = d.name → E3 st.kind d q.2.op q.2.evr = true → ∃ x ∈ Dz A0 st d false, decide ((i : Int) = x) = true := fun q hq h1 h2 =>
   ⟨(i : Int), namedL_mem.2 ⟨i, hi, rfl, q, hq, h1, by unfold Fs; rw [Oo, h2]; simp⟩, by simp⟩
  unfold Hz at h
  simp only [Bool.or_eq_true, List.any_eq_true] at h
  rcases h with h | ⟨a, ha, h⟩ | ⟨a, ha, h⟩
  ·unfold Ge at h
   simp only [Bool.and_eq_true, decide_eq_true_eq] at h
   exact key ((nth st.all i).1.name, ⟨i, true, 2, (nth st.all i).1.evr⟩) (by unfold D6 Cl Cz; exact List.mem_append_left _ List.mem_cons_self) h.1 h.2
  ·simp only [Bool.and_eq_true, decide_eq_true_eq] at h
   exact key (a.name, ⟨i, false, a.op, a.evr⟩) (by unfold D6 Cl Cz; rw [List.take_length]; exact List.mem_append_left _ (List.mem_cons_of_mem _ (List.mem_map.2 ⟨a, ha, rfl⟩))) h.1 h.2
  ·simp only [Bool.and_eq_true, decide_eq_true_eq] at h
   exact key (a, ⟨i, false, 0, []⟩) (by unfold D6 Cl; rw [List.take_length]; exact List.mem_append_right _ (List.mem_map.2 ⟨a, ha, rfl⟩)) h.1 (by unfold E3; rw [if_pos h.2])
theorem X07 {st : PoolT} {n : Nat} {d : DepT} {id : Int} (h1 : ¬ d.kind = 1) (h6 : d.kind = 6) : B5 A0 st (n + 1) d id = (B5 A0 st n (nth d.args 0) id && !B5 A0 st n (nth d.args 1) id) := by
 show (if d.kind = 1 then _ else if d.kind = 6 then B5 A0 st n (nth d.args 0) id && !B5 A0 st n (nth d.args 1) id else _) = _
 rw [if_neg h1, if_pos h6]
theorem Xi {x : Int} (h : 0 ≤ x) : x = ((x.toNat : Nat) : Int) := by omega
theorem Q2s {d : DepT} (h : Ca d = true) (h2 : ¬ d.kind = 2) (h3 : ¬ d.kind = 3) (h4 : ¬ d.kind = 4) : Du d.kind = true := by
 unfold Du
 by_cases h1 : d.kind = 1
 ·simp [h1]
 ·rw [H0 h1] at h
  simp only [Bool.and_eq_true, Bool.not_eq_true', Fa, decide_eq_false_iff_not] at h
  have := h.1
  simp only [not_or] at this
  simp only [Bool.or_eq_true, decide_eq_true_eq]
  omega
theorem Yg {d : DepT} : d.evr.length ≤ d.size := by cases d; simp only [DepT.size, DepT.evr]; omega
theorem Q0r {st : PoolT} {n : Nat} {d : DepT} {id : Int} (h1 : ¬ d.kind = 1) (h6 : ¬ d.kind = 6) : B5 A0 st (n + 1) d id = !(d.args.any fun a => !B5 A0 st n a id) := by
 show (if d.kind = 1 then _ else if d.kind = 6 then _ else !(d.args.any fun a => !B5 A0 st n a id)) = _
 rw [if_neg h1, if_neg h6]
theorem Ua {d : DepT} (h : Ca d = true) (hk : d.kind = 5 ∨ d.kind = 6) {j : Nat} (hj : j < d.args.length) : Du (nth d.args j).kind = true := by
 rw [H0 (by omega)] at h
 simp only [Bool.and_eq_true] at h
 have key : ∀ (l : List DepT) (k : Int), 5 ≤ k → argsForm k l = true → ∀ j, j < l.length → Du (nth l j).kind = true := by
  intro l k h5
  induction l with
  | nil => intro _ j hj; simp at hj
  | cons a l ih =>
   intro q j hj
   simp only [argsForm, Bool.and_eq_true] at q
   cases j with
   | zero =>
    have h1 := q.1
    unfold Hc at h1
    unfold Du
    simp only [Bool.not_eq_true', decide_eq_false_iff_not] at h1
    simp only [Bool.or_eq_true, decide_eq_true_eq]
    show a.kind = 1 ∨ a.kind = 5 ∨ a.kind = 6
    omega
   | succ j => exact ih q.2.2 j (by simpa using hj)
 exact key d.args d.kind (by omega) h.2 j hj
def Dy (st : PoolT) (d : DepT) (i : Nat) : List Int := ((List.range i).filter fun (k : Nat) => Ge st.kind (nth st.all k).1 d).map fun (k : Nat) => (k : Int)
theorem Wl {st : PoolT} {d : DepT} {i : Nat} : (Dy st d i).length ≤ i := by
 unfold Dy
 rw [List.length_map]
 exact Nat.le_trans (List.length_filter_le _ _) (by simp)
theorem Q47 {st : PoolT} {d : DepT} {i : Nat} (h : Ge st.kind (nth st.all i).1 d = true) : (Dy st d (i + 1)).map (AV.int .i64) = (Dy st d i).map (AV.int .i64) ++ [.int .i64 (i : Int)] := by
 unfold Dy
 rw [List.range_succ, List.filter_append, List.map_append, List.map_append]
 simp [h]
theorem Q48 {st : PoolT} {d : DepT} {i : Nat} (h : Ge st.kind (nth st.all i).1 d = false) : Dy st d (i + 1) = Dy st d i := by
 unfold Dy
 rw [List.range_succ, List.filter_append, List.map_append]
 simp [h]
theorem Rs {p : PkgT} (h : p.size ≤ 4194304) : p.evr.length ≤ 4194304 ∧ ∀ j, j < p.provides.length → (nth p.provides j).evr.length ≤ 4194304 := by
 have hz := p.sizes
 refine ⟨by unfold PkgT.depSize at hz; omega, fun j hj => ?_⟩
 have h2 := Mu (l := p.provides) (i := j) hj
 have h3 : (nth p.provides j).evr.length ≤ (nth p.provides j).size := by cases nth p.provides j; simp only [DepT.size, DepT.evr]; omega
 unfold PkgT.depSize at hz
 omega
theorem Q3l {p : PkgT} (h : p.size ≤ 4194304) : p.provides.length ≤ 4194304 ∧ p.files.length ≤ 4194304 := by
 have hz := p.sizes
 have h1 := Ds p.provides
 have h2 := Fb p.files
 unfold PkgT.depSize at hz
 omega
theorem Q35 (k : Int) (p : PkgT) (d : DepT) (hd : d.evr.length ≤ 4194304) (hp : p.size ≤ 4194304) :
  FnV Tryz.prog 122 [(.int .i64 k), (Ak p), (.agg [(.int .i64 d.kind), (.str d.name), (.int .i64 d.op), (.str d.evr), (.row 5 d.args.length (depAt d.args))])] (.bool (Hz k p d)) := by
 have he := (Rs hp).1
 have hpe := (Rs hp).2
 have hrw := Q3l hp
 refine Ba [.tmp 6] Tryz.func122 rfl Tryz.ntmps122 rfl rfl (fun B F hF => ?_)
 refine Ae [] [0, 4, 5] [(1, 4), (2, 5)] hk0 v0 c0 ?_
 refine Ae [] [0, 4, 5, 7] [] (hk 3 Yq (U7 k p d hd he) <| hk0) v0 c0 ?_
 refine Ab ?_
 refine Aa [] [0, 4, 5, 15] ?_
 refine A9 (q := Ge k p d) (by kernel_rfl) (fun c1 => ?_) (fun c1 => ?_)
 ·try simp only [Al] at c1
  refine Aa [] [6] ?_
  refine Ag ?_
  refine RK wR [(.bool true)] ?_
  exact Same.of_eq (by simp only [Aj]; unfold Hz; rw [c1]; rfl)
 ·try simp only [Al] at c1
  refine Ai ?_
  refine Ab ?_
  refine Aa [] [0, 4, 5, 8] ?_
  refine A3 ?_
  refine Bs (fun g y => ∃ (j : Nat), j ≤ p.provides.length ∧ (∀ r, r < j → (decide ((nth p.provides r).name = d.name) && E3 k d (nth p.provides r).op (nth p.provides r).evr) = false) ∧ y = ⟨[(0, (.int .i64 k)), (4, (.fp (Ak p))), (5, (.fp (.agg [(.int .i64 d.kind), (.str d.name), (.int .i64 d.op), (.str d.evr), (.row 5 d.args.length (depAt d.args))]))), (8, (.int .i64 ((j : Int))))], [], 2⟩ ∧ g = p.provides.length - j) [0, 4, 5, 8] 2 _ (by omega) ⟨0, (by omega), (by exact fun r hr => by omega), (by kernel_rfl), rfl⟩ ?_
  rintro g1 y1 ⟨j, f1_1, f1_2, rfl, rfl⟩
  refine Ab ?_
  refine Aa [] [0, 4, 5, 8, 20] ?_
  refine A8 (p := (j : Int) < (p.provides.length : Int)) (by kernel_rfl) (fun c2 => ?_) (fun c2 => ?_)
  ·refine Ai ?_
   refine Ab ?_
   refine A3 ?_
   refine Ae [] [0, 4, 5, 8, 9] [] hk0 v0 (cc 3 (p := (0 ≤ (j : Int) ∧ j < p.provides.length)) (by omega) <| c0) ?_
   obtain ⟨b1, hb1⟩ : ∃ b, b = (decide ((nth p.provides j).name = d.name)) := ⟨_, rfl⟩
   refine Ae (CS := [(9, (b1 = true → b1 = true)), (11, (b1 = true → b1 = true)), (12, b1 = true → b1 = true ∧ b1 = true ∧ b1 = true ∧ b1 = true), (13, (b1 = true → b1 = true))]) [34, 35, 36, 37, 38, 39] [0, 4, 5, 8, 41] [(0, 9)] (hkg 12 b1 Zi (fun cg => U0 k d (nth p.provides j).op (nth p.provides j).evr hd (hpe j (by omega))) <| hk0) (vk 6 33 (a := .bool (decide ((nth p.provides j).name = d.name))) (b := .bool b1) (Imp.of_eq (by rw [hb1])) <| v0) (by refine cc _ ?_ <| cc _ ?_ <| cc _ ?_ <| cc _ ?_ c0 <;> simp) ?_
   refine A9 (q := b1 && (E3 k d (nth p.provides j).op (nth p.provides j).evr)) (by kernel_rfl) (fun c3 => ?_) (fun c3 => ?_)
   ·subst hb1
    try simp only [Al] at c3
    refine Aa [] [6] ?_
    refine Ag ?_
    refine RK wR [(.bool true)] ?_
    exact Same.of_eq (by simp only [Aj]; unfold Hz; rw [Lj (i := j) (by omega) (by simpa using c3)]; simp)
   ·subst hb1
    try simp only [Al] at c3
    refine Ai ?_
    refine Ar ?_
    refine A2 0 [] [0, 4, 5, 8] [] hk0 v0 (cc 1 (p := (-9223372036854775808 ≤ (j : Int) + 1 ∧ (j : Int) + 1 ≤ 9223372036854775807)) (by omega) <| c0) ?_
    refine ⟨by kernel_rfl, _, ?_, j + 1, ?_, ?_, (by kernel_rfl), rfl⟩
    ·omega
    ·omega
    ·intro r hr
     by_cases h : r = j
     ·subst h; by_cases e1 : (nth p.provides r).name = d.name <;> simp_all
     ·exact f1_2 r (by omega)
  ·refine Bl ?_
   refine Ab ?_
   refine Aa [] [4, 5, 10] ?_
   refine A3 ?_
   refine Bs (fun g y => ∃ (z : Nat), z ≤ p.files.length ∧ (∀ r, r < z → (decide (nth p.files r = d.name) && decide (d.op = 0)) = false) ∧ y = ⟨[(4, (.fp (Ak p))), (5, (.fp (.agg [(.int .i64 d.kind), (.str d.name), (.int .i64 d.op), (.str d.evr), (.row 5 d.args.length (depAt d.args))]))), (10, (.int .i64 ((z : Int))))], [], 2⟩ ∧ g = p.files.length - z) [4, 5, 10] 2 _ (by omega) ⟨0, (by omega), (by exact fun r hr => by omega), (by kernel_rfl), rfl⟩ ?_
   rintro g2 y2 ⟨z, f2_1, f2_2, rfl, rfl⟩
   refine Ab ?_
   refine Aa [] [4, 5, 10, 46] ?_
   refine A8 (p := (z : Int) < (p.files.length : Int)) (by kernel_rfl) (fun c4 => ?_) (fun c4 => ?_)
   ·refine Ai ?_
    refine Ab ?_
    refine A3 ?_
    refine Cg (CS := [(3, (0 ≤ (z : Int) ∧ z < p.files.length)), (10, ((decide (nth p.files z = d.name)) = true → (decide (nth p.files z = d.name)) = true)), (11, ((decide (nth p.files z = d.name)) = true → (decide (nth p.files z = d.name)) = true)), (12, ((decide (nth p.files z = d.name)) = true → (decide (nth p.files z = d.name)) = true))]) [58, 59, 60] [4, 5, 10, 61] [] hk0 v0 (by refine cc _ ?_ <| cc _ ?_ <| cc _ ?_ <| cc _ ?_ c0 <;> (intros; simp_all; done)) ?_
    refine A9 (q := (decide (nth p.files z = d.name)) && (decide (d.op = 0))) (by kernel_rfl) (fun c5 => ?_) (fun c5 => ?_)
    ·try simp only [Al] at c5
     refine Aa [] [6] ?_
     refine Ag ?_
     refine RK wR [(.bool true)] ?_
     exact Same.of_eq (by simp only [Aj]; unfold Hz; rw [Lj (l := p.files) (i := z) (by omega) (by simpa using c5)]; simp)
    ·try simp only [Al] at c5
     refine Ai ?_
     refine Ar ?_
     refine A2 0 [] [4, 5, 10] [] hk0 v0 (cc 1 (p := (-9223372036854775808 ≤ (z : Int) + 1 ∧ (z : Int) + 1 ≤ 9223372036854775807)) (by omega) <| c0) ?_
     refine ⟨by kernel_rfl, _, ?_, z + 1, ?_, ?_, (by kernel_rfl), rfl⟩
     ·omega
     ·omega
     ·intro r hr
      by_cases h : r = z
      ·subst h; by_cases e1 : nth p.files r = d.name <;> by_cases e2 : d.op = 0 <;> simp_all
      ·exact f2_2 r (by omega)
   ·refine Bl ?_
    refine Aa [] [6] ?_
    refine Ag ?_
    refine RK wR [(.bool false)] ?_
    exact Same.of_eq (by simp only [Aj]; unfold Hz; rw [c1, Li (l := p.provides) (n := j) (by omega) f1_2, Li (l := p.files) (n := z) (by omega) f2_2]; rfl)
theorem Q4b (st : PoolT) (hi : IdxOk st) (i : Nat) (hx : i < st.all.length) (n : Nat) (d : DepT) (hf : Ca d = true) (hd : d.size ≤ 4194304) (hs : Du d.kind = true) (ih : ∀ j, j < d.args.length → Du (nth d.args j).kind = true → FnV Tryz.prog 62 [.int .i64 st.kind, (Ak ((nth st.all i).1)), (.agg [(.int .i64 ((nth d.args j).kind)), (.str ((nth d.args j).name)), (.int .i64 ((nth d.args j).op)), (.str ((nth d.args j).evr)), (.row 5 (nth d.args j).args.length (depAt (nth d.args j).args))])] (.bool (B5 A0 st n (nth d.args j) (i : Int)))) :
  FnV Tryz.prog 62 [(.int .i64 st.kind), (Ak ((nth st.all i).1)), (.agg [(.int .i64 d.kind), (.str d.name), (.int .i64 d.op), (.str d.evr), (.row 5 d.args.length (depAt d.args))])] (.bool (B5 A0 st (n + 1) d (i : Int))) := by
 have hpz := hi.2 i hx
 have hev := Yg (d := d)
 have hda := Ee d
 have hal := Ds d.args
 refine Ba [.tmp 6] Tryz.func62 rfl Tryz.ntmps62 rfl rfl (fun B F hF => ?_)
 refine Ae [] [0, 4, 5] [(1, 4), (2, 5)] hk0 v0 c0 ?_
 refine Ab ?_
 refine Aa [] [0, 4, 5, 12] ?_
 refine A3 ?_
 refine Aa [] [0, 4, 5, 12, 13] ?_
 refine A8 (p := d.kind = 1) (by kernel_rfl) (fun c1 => ?_) (fun c1 => ?_)
 ·refine Ae [] [6] [] (hk 3 Q87 (Q35 st.kind (nth st.all i).1 d (by omega) hpz) <| hk0) v0 c0 ?_
  refine Ag ?_
  refine RK wR [(.bool (Hz st.kind (nth st.all i).1 d))] ?_
  exact Same.of_eq (by simp only [Aj]; unfold B5; rw [if_pos c1, Q5o hx])
 ·refine Aa [] [0, 4, 5, 12, 19] ?_
  refine A8 (p := d.kind = 5) (by kernel_rfl) (fun c2 => ?_) (fun c2 => ?_)
  ·have hsg := fun j hj => Ua (d := d) hf (.inl c2) (j := j) hj
   refine Ab ?_
   refine Aa [] [0, 4, 5, 7] ?_
   refine A3 ?_
   refine Bs (fun g y => ∃ (j : Nat), j ≤ d.args.length ∧ (∀ r, r < j → B5 A0 st n (nth d.args r) (i : Int) = true) ∧ y = ⟨[(0, (.int .i64 st.kind)), (4, (.fp (Ak ((nth st.all i).1)))), (5, (.fp (.agg [(.int .i64 d.kind), (.str d.name), (.int .i64 d.op), (.str d.evr), (.row 5 d.args.length (depAt d.args))]))), (7, (.int .i64 ((j : Int))))], [], 2⟩ ∧ g = d.args.length - j) [0, 4, 5, 7] 2 _ (by omega) ⟨0, (by omega), (by exact fun r hr => by omega), (by kernel_rfl), rfl⟩ ?_
   rintro g1 y1 ⟨j, f1_1, f1_2, rfl, rfl⟩
   refine Ab ?_
   refine Aa [] [0, 4, 5, 7, 25] ?_
   refine A8 (p := (j : Int) < (d.args.length : Int)) (by kernel_rfl) (fun c3 => ?_) (fun c3 => ?_)
   ·refine Ai ?_
    refine Ab ?_
    refine A3 ?_
    refine Cg [] [0, 4, 5, 7, 8] [] (hk 7 Mn (ih j (by omega) (hsg j (by omega))) <| hk0) (vk 5 31 (Eh d.args) <| v0) (cc 5 (p := (0 ≤ (j : Int) ∧ j < d.args.length)) (by omega) <| c0) ?_
    refine Aa [] [0, 4, 5, 7, 37] ?_
    refine A9 (q := !(B5 A0 st n (nth d.args j) (i : Int))) (by kernel_rfl) (fun c4 => ?_) (fun c4 => ?_)
    ·try simp only [Al] at c4
     refine Aa [] [6] ?_
     refine Ag ?_
     refine RK wR [(.bool false)] ?_
     exact Same.of_eq (by simp only [Aj]; rw [Q0r c1 (by omega), Lj (i := j) (by omega) (by simpa using c4)]; rfl)
    ·try simp only [Al] at c4
     refine Ai ?_
     refine Ar ?_
     refine A2 0 [] [0, 4, 5, 7] [] hk0 v0 (cc 1 (p := (-9223372036854775808 ≤ (j : Int) + 1 ∧ (j : Int) + 1 ≤ 9223372036854775807)) (by omega) <| c0) ?_
     refine ⟨by kernel_rfl, _, ?_, j + 1, ?_, ?_, (by kernel_rfl), rfl⟩
     ·omega
     ·omega
     ·intro r hr
      by_cases h : r = j
      ·subst h; simp_all
      ·exact f1_2 r (by omega)
   ·refine Bl ?_
    refine Aa [] [6] ?_
    refine Ag ?_
    refine RK wR [(.bool true)] ?_
    exact Same.of_eq (by simp only [Aj]; rw [Q0r c1 (by omega), Li (n := j) (by omega) (fun r hr => by rw [f1_2 r hr]; rfl)]; rfl)
  ·refine Aa [] [0, 4, 5, 38] ?_
   refine A8 (p := d.kind = 6) (by kernel_rfl) (fun c5 => ?_) (fun c5 => ?_)
   ·have hsg := fun j hj => Ua (d := d) hf (.inr c5) (j := j) hj
    have h2a := X5 hf (by omega)
    refine Cg [] [0, 4, 5, 9] [] (hk 6 Mn (ih 0 (by omega) (hsg 0 (by omega))) <| hk0) (vk 4 43 (Eh d.args) <| v0) (cc 4 (p := (0 ≤ (0 : Int) ∧ 0 < d.args.length)) (by omega) <| c0) ?_
    refine Cg [] [9, 10] [] (hk 6 Mn (ih 1 (by omega) (hsg 1 (by omega))) <| hk0) (vk 4 50 (Eh d.args) <| v0) (cc 4 (p := (0 ≤ (1 : Int) ∧ 1 < d.args.length)) (by omega) <| c0) ?_
    obtain ⟨b1, hb1⟩ : ∃ b, b = (B5 A0 st n (nth d.args 0) (i : Int)) := ⟨_, rfl⟩
    obtain ⟨b2, hb2⟩ : ∃ b, b = (b1 && (!(B5 A0 st n (nth d.args 1) (i : Int)))) := ⟨_, rfl⟩
    refine Ae (CS := [(3, (b1 = true → b1 = true)), (4, (b1 = true → b1 = true))]) [56, 57] [6] [] hk0 (vk 2 55 (a := .bool (B5 A0 st n (nth d.args 0) (i : Int))) (b := .bool b1) (Imp.of_eq (by rw [hb1])) <| vk 5 58 (a := .bool (b1 && (!(B5 A0 st n (nth d.args 1) (i : Int))))) (b := .bool b2) (Imp.of_eq (by rw [hb2])) <| v0) (by refine cc _ ?_ <| cc _ ?_ c0 <;> simp) ?_
    refine Ag ?_
    refine RK wR [(.bool b2)] ?_
    subst hb2 hb1
    exact Same.of_eq (by simp only [Aj]; rw [X07 c1 c5])
   ·exfalso; unfold Du at hs; simp at hs; omega
theorem U9 (st : PoolT) (hi : IdxOk st) (i : Nat) (hx : i < st.all.length) : ∀ (n : Nat) (d : DepT), d.size ≤ n → Ca d = true → d.size ≤ 4194304 → Du d.kind = true → FnV Tryz.prog 62 [.int .i64 st.kind, (Ak ((nth st.all i).1)), (.agg [(.int .i64 (d.kind)), (.str (d.name)), (.int .i64 (d.op)), (.str (d.evr)), (.row 5 d.args.length (depAt d.args))])] (.bool (B5 A0 st n d (i : Int))) := by
 intro n
 induction n with
 | zero => intro d h; have := Ee d; omega
 | succ n ih => exact fun d h hf hd hs => Q4b st hi i hx n d hf hd hs fun j hj hk => ih _ (by have h1 := Fi hj; omega) (X2 hf hj) (by have h1 := Fi hj; omega) hk
theorem Q31 (st : PoolT) (pl : List (Int × Int)) (h : Id st pl) (hi : IdxOk st) (d : DepT) (hf : Ca d = true) (hd : d.size ≤ 4194304) (hs : Du d.kind = true) :
  FnV Tryz.prog 18 [(.fp (C0 st pl)), (.agg [(.int .i64 d.kind), (.str d.name), (.int .i64 d.op), (.str d.evr), (.row 5 d.args.length (depAt d.args))])] (Bu (Cv A0 st d st.all.length)) := by
 have hn := h.1
 have h200 := hi.1
 refine Ba [.tmp 4] Tryz.func18 rfl Tryz.ntmps18 rfl rfl (fun B F hF => ?_)
 refine Ae [] [0, 3] [(1, 3)] hk0 v0 c0 ?_
 refine Aa [] [0, 3, 5] ?_
 refine Ab ?_
 refine Aa [] [0, 3, 5, 6] ?_
 refine A3 ?_
 refine Pk 3 1 5 (y := ⟨[(0, (.fp (C0 st pl))), (3, (.fp (.agg [(.int .i64 d.kind), (.str d.name), (.int .i64 d.op), (.str d.evr), (.row 5 d.args.length (depAt d.args))]))), (5, (.own 1)), (6, (.int .i64 0))], [(1, (.grow [] 3 1))], 2⟩) (by kernel_rfl) (by kernel_rfl) ?_
 refine Bs (fun g y => ∃ (i : Nat), i ≤ pl.length ∧ y = ⟨[(0, (.fp (C0 st pl))), (3, (.fp (.agg [(.int .i64 d.kind), (.str d.name), (.int .i64 d.op), (.str d.evr), (.row 5 d.args.length (depAt d.args))]))), (5, (.own 1)), (6, (.int .i64 ((i : Int))))], [(1, (.grow ((Cv A0 st d i).map (AV.int .i64)) 3 1))], 2⟩ ∧ g = pl.length - i) [0, 3, 5, 6] 2 _ (by omega) ⟨0, (by omega), (by kernel_rfl), rfl⟩ ?_
 rintro g1 y1 ⟨i, f1_1, rfl, rfl⟩
 have hwl := Ps (m := A0) (st := st) (d := d) (i := i)
 have hwm : ((Cv A0 st d i).map (AV.int .i64)).length = (Cv A0 st d i).length := List.length_map _
 refine Ab ?_
 refine Ae [] [0, 3, 5, 6, 11] [] (hk 2 Y0 (U6 st pl) <| hk0) v0 c0 ?_
 refine A8 (p := (i : Int) < (pl.length : Int)) (by kernel_rfl) (fun c1 => ?_) (fun c1 => ?_)
 ·refine Ai ?_
  refine Ab ?_
  refine A3 ?_
  refine Cg [] [0, 3, 5, 6, 7] [] (hk 6 Rx (Ql st pl h i (by omega)) <| hk 8 Mn (U9 st hi i (by omega) d.size d (Nat.le_refl _) hf hd hs) <| hk0) v0 c0 ?_
  refine Aa [] [0, 3, 5, 6, 23] ?_
  refine A9 (q := B5 A0 st d.size d (i : Int)) (by kernel_rfl) (fun c2 => ?_) (fun c2 => ?_)
  ·try simp only [Al] at c2
   refine Ar ?_
   refine A2 0 [] [0, 3, 5, 6] [] hk0 v0 (cc 3 (p := ((((Cv A0 st d i).map (AV.int .i64)).length + 1) * 8 ≤ 140737488355328)) (by omega) <| c0) ?_
   refine Ar ?_
   refine A2 0 [] [0, 3, 5, 6] [] hk0 v0 (cc 1 (p := (-9223372036854775808 ≤ (i : Int) + 1 ∧ (i : Int) + 1 ≤ 9223372036854775807)) (by omega) <| c0) ?_
   refine ⟨by kernel_rfl, _, ?_, i + 1, ?_, (Eq.trans (b := (⟨[(0, (.fp (C0 st pl))), (3, (.fp (.agg [(.int .i64 d.kind), (.str d.name), (.int .i64 d.op), (.str d.evr), (.row 5 d.args.length (depAt d.args))]))), (5, (.own 1)), (6, (.int .i64 ((i : Int) + 1)))], [(1, (.grow (((Cv A0 st d i).map (AV.int .i64)) ++ ([(.int .i64 ((i : Int)))] : List AV)) 3 1))], 2⟩ : St)) (by kernel_rfl) (by rw [Tl (by assumption)] <;> kernel_rfl)), rfl⟩
   ·omega
   ·omega
  ·try simp only [Al] at c2
   refine Ai ?_
   refine Ar ?_
   refine A2 0 [] [0, 3, 5, 6] [] hk0 v0 (cc 1 (p := (-9223372036854775808 ≤ (i : Int) + 1 ∧ (i : Int) + 1 ≤ 9223372036854775807)) (by omega) <| c0) ?_
   refine ⟨by kernel_rfl, _, ?_, i + 1, ?_, (Eq.trans (b := (⟨[(0, (.fp (C0 st pl))), (3, (.fp (.agg [(.int .i64 d.kind), (.str d.name), (.int .i64 d.op), (.str d.evr), (.row 5 d.args.length (depAt d.args))]))), (5, (.own 1)), (6, (.int .i64 ((i : Int) + 1)))], [(1, (.grow ((Cv A0 st d i).map (AV.int .i64)) 3 1))], 2⟩ : St)) (by kernel_rfl) (by rw [Tm (by assumption)] <;> kernel_rfl)), rfl⟩
   ·omega
   ·omega
 ·refine Bl ?_
  refine Aa [] [4] ?_
  refine Ag ?_
  refine RK wR [(.row 1 ((Cv A0 st d i).map (AV.int .i64)).length (fun ix => ((Cv A0 st d i).map (AV.int .i64)).getD ix Bh))] ?_
  rw [show i = st.all.length from by omega]
  simp only [Aj]
  exact (Imp.list (f := AV.int .i64) (List.length_map _)).same
theorem Q34 (st : PoolT) (pl : List (Int × Int)) (h : Id st pl) (hi : IdxOk st) (d : DepT) (hd : d.size ≤ 4194304) :
  FnV Tryz.prog 19 [(.fp (C0 st pl)), (.agg [(.int .i64 d.kind), (.str d.name), (.int .i64 d.op), (.str d.evr), (.row 5 d.args.length (depAt d.args))])] (Bu (Dy st d st.all.length)) := by
 have hn := h.1
 have h200 := hi.1
 have hev := Yg (d := d)
 refine Ba [.tmp 4] Tryz.func19 rfl Tryz.ntmps19 rfl rfl (fun B F hF => ?_)
 refine Ae [] [0, 3] [(1, 3)] hk0 v0 c0 ?_
 refine Aa [] [0, 3, 5] ?_
 refine Ab ?_
 refine Aa [] [0, 3, 5, 6] ?_
 refine A3 ?_
 refine Pk 3 1 5 (y := ⟨[(0, (.fp (C0 st pl))), (3, (.fp (.agg [(.int .i64 d.kind), (.str d.name), (.int .i64 d.op), (.str d.evr), (.row 5 d.args.length (depAt d.args))]))), (5, (.own 1)), (6, (.int .i64 0))], [(1, (.grow [] 3 1))], 2⟩) (by kernel_rfl) (by kernel_rfl) ?_
 refine Bs (fun g y => ∃ (i : Nat), i ≤ pl.length ∧ y = ⟨[(0, (.fp (C0 st pl))), (3, (.fp (.agg [(.int .i64 d.kind), (.str d.name), (.int .i64 d.op), (.str d.evr), (.row 5 d.args.length (depAt d.args))]))), (5, (.own 1)), (6, (.int .i64 ((i : Int))))], [(1, (.grow ((Dy st d i).map (AV.int .i64)) 3 1))], 2⟩ ∧ g = pl.length - i) [0, 3, 5, 6] 2 _ (by omega) ⟨0, (by omega), (by kernel_rfl), rfl⟩ ?_
 rintro g1 y1 ⟨i, f1_1, rfl, rfl⟩
 have hwl := Wl (st := st) (d := d) (i := i)
 have hwm : ((Dy st d i).map (AV.int .i64)).length = (Dy st d i).length := List.length_map _
 refine Ab ?_
 refine Ae [] [0, 3, 5, 6, 11] [] (hk 2 Y0 (U6 st pl) <| hk0) v0 c0 ?_
 refine A8 (p := (i : Int) < (pl.length : Int)) (by kernel_rfl) (fun c1 => ?_) (fun c1 => ?_)
 ·refine Ai ?_
  refine Ab ?_
  refine A3 ?_
  refine Cg [] [0, 3, 5, 6, 7] [] (hk 6 Rx (Ql st pl h i (by omega)) <| hk 8 Yq (U7 st.kind (nth st.all i).1 d (by omega) (Rs (hi.2 i (by omega))).1) <| hk0) v0 c0 ?_
  refine Aa [] [0, 3, 5, 6, 23] ?_
  refine A9 (q := Ge st.kind (nth st.all i).1 d) (by kernel_rfl) (fun c2 => ?_) (fun c2 => ?_)
  ·try simp only [Al] at c2
   refine Ar ?_
   refine A2 0 [] [0, 3, 5, 6] [] hk0 v0 (cc 3 (p := ((((Dy st d i).map (AV.int .i64)).length + 1) * 8 ≤ 140737488355328)) (by omega) <| c0) ?_
   refine Ar ?_
   refine A2 0 [] [0, 3, 5, 6] [] hk0 v0 (cc 1 (p := (-9223372036854775808 ≤ (i : Int) + 1 ∧ (i : Int) + 1 ≤ 9223372036854775807)) (by omega) <| c0) ?_
   refine ⟨by kernel_rfl, _, ?_, i + 1, ?_, (Eq.trans (b := (⟨[(0, (.fp (C0 st pl))), (3, (.fp (.agg [(.int .i64 d.kind), (.str d.name), (.int .i64 d.op), (.str d.evr), (.row 5 d.args.length (depAt d.args))]))), (5, (.own 1)), (6, (.int .i64 ((i : Int) + 1)))], [(1, (.grow (((Dy st d i).map (AV.int .i64)) ++ ([(.int .i64 ((i : Int)))] : List AV)) 3 1))], 2⟩ : St)) (by kernel_rfl) (by rw [Q47 (by assumption)] <;> kernel_rfl)), rfl⟩
   ·omega
   ·omega
  ·try simp only [Al] at c2
   refine Ai ?_
   refine Ar ?_
   refine A2 0 [] [0, 3, 5, 6] [] hk0 v0 (cc 1 (p := (-9223372036854775808 ≤ (i : Int) + 1 ∧ (i : Int) + 1 ≤ 9223372036854775807)) (by omega) <| c0) ?_
   refine ⟨by kernel_rfl, _, ?_, i + 1, ?_, (Eq.trans (b := (⟨[(0, (.fp (C0 st pl))), (3, (.fp (.agg [(.int .i64 d.kind), (.str d.name), (.int .i64 d.op), (.str d.evr), (.row 5 d.args.length (depAt d.args))]))), (5, (.own 1)), (6, (.int .i64 ((i : Int) + 1)))], [(1, (.grow ((Dy st d i).map (AV.int .i64)) 3 1))], 2⟩ : St)) (by kernel_rfl) (by rw [Q48 (by assumption)] <;> kernel_rfl)), rfl⟩
   ·omega
   ·omega
 ·refine Bl ?_
  refine Aa [] [4] ?_
  refine Ag ?_
  refine RK wR [(.row 1 ((Dy st d i).map (AV.int .i64)).length (fun ix => ((Dy st d i).map (AV.int .i64)).getD ix Bh))] ?_
  rw [show i = st.all.length from by omega]
  simp only [Aj]
  exact (Imp.list (f := AV.int .i64) (List.length_map _)).same
theorem Q36 (st : PoolT) (pl : List (Int × Int)) (h : Id st pl) (hi : IdxOk st) (s : List Int) (hs : ∀ x ∈ s, 0 ≤ x ∧ x < st.all.length) (hsl : s.length ≤ 4611686018427) (n : Nat) (d : DepT) (hn : d.size ≤ n + 1) (hf : Ca d = true) (hd : d.size ≤ 4194304) (ih : ∀ j, j < d.args.length → FnV Tryz.prog 21 [(.fp (C0 st pl)), (.agg [(.int .i64 ((nth d.args j).kind)), (.str ((nth d.args j).name)), (.int .i64 ((nth d.args j).op)), (.str ((nth d.args j).evr)), (.row 5 (nth d.args j).args.length (depAt (nth d.args j).args))]), Bu s] (.bool (B1 A0 st s n (nth d.args j)))) :
  FnV Tryz.prog 21 [(.fp (C0 st pl)), (.agg [(.int .i64 d.kind), (.str d.name), (.int .i64 d.op), (.str d.evr), (.row 5 d.args.length (depAt d.args))]), (Bu s)] (.bool (B1 A0 st s (n + 1) d)) := by
 have hda := Ee d
 have hal := Ds d.args
 refine Ba [.tmp 6] Tryz.func21 rfl Tryz.ntmps21 rfl rfl (fun B F hF => ?_)
 refine Ae [] [0, 2, 4] [(1, 4)] hk0 v0 c0 ?_
 refine Ab ?_
 refine Aa [] [0, 2, 4, 15] ?_
 refine A3 ?_
 refine Aa [] [0, 2, 4, 15, 16] ?_
 refine A8 (p := d.kind = 2) (by kernel_rfl) (fun c1 => ?_) (fun c1 => ?_)
 ·refine Ab ?_
  refine Aa [] [0, 2, 4, 7] ?_
  refine A3 ?_
  refine Bs (fun g y => ∃ (j : Nat), j ≤ d.args.length ∧ (∀ r, r < j → B1 A0 st s n (nth d.args r) = true) ∧ y = ⟨[(0, (.fp (C0 st pl))), (2, (Bu s)), (4, (.fp (.agg [(.int .i64 d.kind), (.str d.name), (.int .i64 d.op), (.str d.evr), (.row 5 d.args.length (depAt d.args))]))), (7, (.int .i64 ((j : Int))))], [], 1⟩ ∧ g = d.args.length - j) [0, 2, 4, 7] 1 _ (by omega) ⟨0, (by omega), (by exact fun r hr => by omega), (by kernel_rfl), rfl⟩ ?_
  rintro g1 y1 ⟨j, f1_1, f1_2, rfl, rfl⟩
  refine Ab ?_
  refine Aa [] [0, 2, 4, 7, 22] ?_
  refine A8 (p := (j : Int) < (d.args.length : Int)) (by kernel_rfl) (fun c2 => ?_) (fun c2 => ?_)
  ·refine Ai ?_
   refine Ab ?_
   refine A3 ?_
   refine Ae [] [0, 2, 4, 7, 8] [] (hk 7 It (ih j (by omega)) <| hk0) (vk 4 27 (Eh d.args) <| v0) (cc 4 (p := (0 ≤ (j : Int) ∧ j < d.args.length)) (by omega) <| c0) ?_
   refine Aa [] [0, 2, 4, 7, 34] ?_
   refine A9 (q := !(B1 A0 st s n (nth d.args j))) (by kernel_rfl) (fun c3 => ?_) (fun c3 => ?_)
   ·try simp only [Al] at c3
    refine Aa [] [6] ?_
    refine Ag ?_
    refine RK wR [(.bool false)] ?_
    exact Same.of_eq (by simp only [Aj]; rw [Q7 c1, Lj (i := j) (by omega) (by rw [c3]; rfl)]; rfl)
   ·try simp only [Al] at c3
    refine Ai ?_
    refine Ar ?_
    refine A2 0 [] [0, 2, 4, 7] [] hk0 v0 (cc 1 (p := (-9223372036854775808 ≤ (j : Int) + 1 ∧ (j : Int) + 1 ≤ 9223372036854775807)) (by omega) <| c0) ?_
    refine ⟨by kernel_rfl, _, ?_, j + 1, ?_, ?_, (by kernel_rfl), rfl⟩
    ·omega
    ·omega
    ·intro r hr
     by_cases h : r = j
     ·subst h; simp_all
     ·exact f1_2 r (by omega)
  ·refine Bl ?_
   refine Aa [] [6] ?_
   refine Ag ?_
   refine RK wR [(.bool true)] ?_
   exact Same.of_eq (by simp only [Aj]; rw [Q7 c1, Li (n := j) (by omega) (fun r hr => by rw [f1_2 r hr]; rfl)]; rfl)
 ·refine Aa [] [0, 2, 4, 15, 35] ?_
  refine A8 (p := d.kind = 3) (by kernel_rfl) (fun c4 => ?_) (fun c4 => ?_)
  ·refine Ab ?_
   refine Aa [] [0, 2, 4, 9] ?_
   refine A3 ?_
   refine Bs (fun g y => ∃ (j : Nat), j ≤ d.args.length ∧ (∀ r, r < j → B1 A0 st s n (nth d.args r) = false) ∧ y = ⟨[(0, (.fp (C0 st pl))), (2, (Bu s)), (4, (.fp (.agg [(.int .i64 d.kind), (.str d.name), (.int .i64 d.op), (.str d.evr), (.row 5 d.args.length (depAt d.args))]))), (9, (.int .i64 ((j : Int))))], [], 1⟩ ∧ g = d.args.length - j) [0, 2, 4, 9] 1 _ (by omega) ⟨0, (by omega), (by exact fun r hr => by omega), (by kernel_rfl), rfl⟩ ?_
   rintro g2 y2 ⟨j, f2_1, f2_2, rfl, rfl⟩
   refine Ab ?_
   refine Aa [] [0, 2, 4, 9, 41] ?_
   refine A8 (p := (j : Int) < (d.args.length : Int)) (by kernel_rfl) (fun c5 => ?_) (fun c5 => ?_)
   ·refine Ai ?_
    refine Ab ?_
    refine A3 ?_
    refine Ae [] [0, 2, 4, 9, 10] [] (hk 7 It (ih j (by omega)) <| hk0) (vk 4 46 (Eh d.args) <| v0) (cc 4 (p := (0 ≤ (j : Int) ∧ j < d.args.length)) (by omega) <| c0) ?_
    refine Aa [] [0, 2, 4, 9, 52] ?_
    refine A9 (q := B1 A0 st s n (nth d.args j)) (by kernel_rfl) (fun c6 => ?_) (fun c6 => ?_)
    ·try simp only [Al] at c6
     refine Aa [] [6] ?_
     refine Ag ?_
     refine RK wR [(.bool true)] ?_
     exact Same.of_eq (by simp only [Aj]; rw [Q5 c4, Lj (i := j) (by omega) c6])
    ·try simp only [Al] at c6
     refine Ai ?_
     refine Ar ?_
     refine A2 0 [] [0, 2, 4, 9] [] hk0 v0 (cc 1 (p := (-9223372036854775808 ≤ (j : Int) + 1 ∧ (j : Int) + 1 ≤ 9223372036854775807)) (by omega) <| c0) ?_
     refine ⟨by kernel_rfl, _, ?_, j + 1, ?_, ?_, (by kernel_rfl), rfl⟩
     ·omega
     ·omega
     ·intro r hr
      by_cases h : r = j
      ·subst h; simp_all
      ·exact f2_2 r (by omega)
   ·refine Bl ?_
    refine Aa [] [6] ?_
    refine Ag ?_
    refine RK wR [(.bool false)] ?_
    exact Same.of_eq (by simp only [Aj]; rw [Q5 c4, Li (n := j) (by omega) f2_2])
  ·refine Aa [] [0, 2, 4, 53] ?_
   refine A8 (p := d.kind = 4) (by kernel_rfl) (fun c7 => ?_) (fun c7 => ?_)
   ·have h2a := X5 hf (by omega)
    refine Ae [] [0, 2, 4, 11] [] (hk 6 It (ih 1 (by omega)) <| hk0) (vk 3 57 (Eh d.args) <| v0) (cc 3 (p := (0 ≤ (1 : Int) ∧ 1 < d.args.length)) (by omega) <| c0) ?_
    refine Ab ?_
    refine Aa [] [0, 2, 4, 62] ?_
    refine A9 (q := B1 A0 st s n (nth d.args 1)) (by kernel_rfl) (fun c8 => ?_) (fun c8 => ?_)
    ·try simp only [Al] at c8
     refine Ae [] [6] [] (hk 6 It (ih 0 (by omega)) <| hk0) (vk 3 65 (Eh d.args) <| v0) (cc 3 (p := (0 ≤ (0 : Int) ∧ 0 < d.args.length)) (by omega) <| c0) ?_
     refine Ag ?_
     refine RK wR [(.bool (B1 A0 st s n (nth d.args 0)))] ?_
     exact Same.of_eq (by simp only [Aj]; rw [L6 c7, if_pos c8])
    ·try simp only [Al] at c8
     refine Ai ?_
     refine Ab ?_
     refine Ar ?_
     obtain ⟨b1, hb1⟩ : ∃ b, b = (decide ((d.args.length : Int) < 3)) := ⟨_, rfl⟩
     refine Bj 5 0 [] [0, 2, 4, 74] [] hk0 v0 c0 ?_
     refine Ff 74 (a := .bool (decide ((d.args.length : Int) < 3))) (.bool b1) (by kernel_rfl) (Imp.of_eq (by rw [hb1])) ?_
     refine Pb b1 (fun c9 => ?_) (fun c9 => ?_)
     ·refine Ff 74 (a := .bool b1) (.bool true) (by kernel_rfl) (Imp.of_eq (by rw [c9])) ?_
      refine A2 5 [] [6] [] hk0 v0 c0 ?_
      refine Ag ?_
      refine RK wR [(.bool true)] ?_
      subst hb1
      exact Same.of_eq (by simp only [Aj]; rw [L6 c7, if_neg (by simp [c8]), decide_eq_true (by simp at c9; omega)]; rfl)
     ·refine Ff 74 (a := .bool b1) (.bool false) (by kernel_rfl) (Imp.of_eq (by rw [c9])) ?_
      refine A2 5 [] [6] [] (hk 11 It (ih 2 (by have h9 := c9; rw [hb1] at h9; simp at h9; omega)) <| hk0) (vk 8 77 (Eh d.args) <| v0) (cc 8 (p := (0 ≤ (2 : Int) ∧ 2 < d.args.length)) (by (intros; simp_all; omega)) <| c0) ?_
      refine Ag ?_
      refine RK wR [(.bool (B1 A0 st s n (nth d.args 2)))] ?_
      subst hb1
      exact Same.of_eq (by simp only [Aj]; rw [L6 c7, if_neg (by simp [c8]), decide_eq_false (by simp at c9; omega)]; rfl)
   ·have hsk : Du d.kind = true := Q2s hf c1 c4 c7
    refine Ai ?_
    refine Ab ?_
    refine Aa [] [0, 2, 4, 12] ?_
    refine A3 ?_
    refine Bs (fun g y => ∃ (i : Nat), i ≤ s.length ∧ (∀ r, r < i → B5 A0 st (n + 1) d (nth s r) = false) ∧ y = ⟨[(0, (.fp (C0 st pl))), (2, (Bu s)), (4, (.fp (.agg [(.int .i64 d.kind), (.str d.name), (.int .i64 d.op), (.str d.evr), (.row 5 d.args.length (depAt d.args))]))), (12, (.int .i64 ((i : Int))))], [], 1⟩ ∧ g = s.length - i) [0, 2, 4, 12] 1 _ (by omega) ⟨0, (by omega), (by exact fun r hr => by omega), (by kernel_rfl), rfl⟩ ?_
    rintro g3 y3 ⟨i, f3_1, f3_2, rfl, rfl⟩
    refine Ab ?_
    refine Aa [] [0, 2, 4, 12, 86] ?_
    refine A8 (p := (i : Int) < (s.length : Int)) (by kernel_rfl) (fun c10 => ?_) (fun c10 => ?_)
    ·have hli := hs (nth s i) (by rw [Gd (by omega)]; exact List.getElem_mem _)
     refine Ai ?_
     refine Ab ?_
     refine A3 ?_
     refine Cg [] [0, 2, 4, 12, 13] [] (hk 9 (al := [(.fp (C0 st pl)), (.int .i64 (nth s i))]) Rx ((Ql st pl h (nth s i).toNat (by omega)).of_args (ImpL.cons Imp.refl (ImpL.cons (Imp.of_eq (congrArg (AV.int .i64) (Xi hli.1))) ImpL.nil))) <| hk 11 Mn ((U9 st hi (nth s i).toNat (by omega) (n + 1) d hn hf hd hsk).to (Same.of_eq (by rw [← Xi hli.1]))) <| hk0) v0 (cc 7 (p := (0 ≤ (i : Int) ∧ i < s.length)) (by omega) <| c0) ?_
     refine Aa [] [0, 2, 4, 12, 101] ?_
     refine A9 (q := B5 A0 st (n + 1) d (nth s i)) (by kernel_rfl) (fun c11 => ?_) (fun c11 => ?_)
     ·try simp only [Al] at c11
      refine Aa [] [6] ?_
      refine Ag ?_
      refine RK wR [(.bool true)] ?_
      exact Same.of_eq (by simp only [Aj]; rw [Q6 c1 c4 c7, Lj (i := i) (by omega) c11])
     ·try simp only [Al] at c11
      refine Ai ?_
      refine Ar ?_
      refine A2 0 [] [0, 2, 4, 12] [] hk0 v0 (cc 1 (p := (-9223372036854775808 ≤ (i : Int) + 1 ∧ (i : Int) + 1 ≤ 9223372036854775807)) (by omega) <| c0) ?_
      refine ⟨by kernel_rfl, _, ?_, i + 1, ?_, ?_, (by kernel_rfl), rfl⟩
      ·omega
      ·omega
      ·intro r hr
       by_cases h : r = i
       ·subst h; simp_all
       ·exact f3_2 r (by omega)
    ·refine Bl ?_
     refine Aa [] [6] ?_
     refine Ag ?_
     refine RK wR [(.bool false)] ?_
     exact Same.of_eq (by simp only [Aj]; rw [Q6 c1 c4 c7, Li (n := i) (by omega) f3_2])
theorem Qn (st : PoolT) (pl : List (Int × Int)) (h : Id st pl) (hi : IdxOk st) (s : List Int) (hs : ∀ x ∈ s, 0 ≤ x ∧ x < st.all.length) (hsl : s.length ≤ 4611686018427) : ∀ (n : Nat) (d : DepT), d.size ≤ n → Ca d = true → d.size ≤ 4194304 → FnV Tryz.prog 21 [(.fp (C0 st pl)), (.agg [(.int .i64 (d.kind)), (.str (d.name)), (.int .i64 (d.op)), (.str (d.evr)), (.row 5 d.args.length (depAt d.args))]), Bu s] (.bool (B1 A0 st s n d)) := by
 intro n
 induction n with
 | zero => intro d h; have := Ee d; omega
 | succ n ih => exact fun d hn hf hd => Q36 st pl h hi s hs hsl n d hn hf hd fun j hj => ih _ (by have h1 := Fi hj; omega) (X2 hf hj) (by have h1 := Fi hj; omega)
end Sv
end Go.Proofs.YtlfjokcbkopfeaaGreatDoor
end
section
namespace Go.Proofs.YtlfjokcbkopfeaaGreatDoor
open Go Go.RowKit
namespace Sv
section
variable {st : PoolT} {d : DepT} {s : List Int}
theorem Uw (h : ¬ Bq d = 0) (q : Bool) : Cy d q = Bq d := by unfold Cy; rw [if_neg h]
theorem Q14 (h : ¬ Bq d = 0) : Dl A0 st d = ([], Bq d) := by unfold Dl; rw [Uw h, if_neg h]
theorem Q46 (h : ¬ Bq d = 0) : Di A0 st d = ([], Bq d) := by unfold Di; rw [Uw h, if_neg h]
theorem Q5u (h : ¬ Bq d = 0) : Cd A0 st d s = (false, Bq d) := by unfold Cd; rw [if_neg h]
theorem Q12 (h : Bq d = 0) (k : Ks d.kind = true) : Dl A0 st d = (Cv A0 st d st.all.length, 0) := by
  have k : Du d.kind = true := k
  unfold Dl Cy; rw [if_pos h, k, if_pos rfl, if_pos rfl]
theorem Q13 (h : Bq d = 0) (k : Ks d.kind = false) : Dl A0 st d = ([], 70) := by
  have k : Du d.kind = false := k
  unfold Dl Cy; rw [if_pos h, k]; rfl
theorem Q2m {l : List Int} (h : l.Pairwise (· ≤ ·)) : Ic (Lib.compact l) := by
  have hs : ∀ i, i + 1 < l.toArray.size → l.toArray[i]! ≤ l.toArray[i + 1]! := fun i hi => by
    have hi' : i + 1 < l.length := by simpa using hi
    have := List.pairwise_iff_getElem.1 h i (i + 1) (by omega) hi' (by omega)
    simpa [getElem!_pos, hi', show i < l.length by omega] using this
  exact (Q95 l.toArray hs l.length (by simp)).1
theorem Q4c (l : List (PkgT × Int)) (n : Nat) : (Bc l n).Pairwise fun a b => a.2.id ≤ b.2.id := by
  induction n with
  | zero => exact List.Pairwise.nil
  | succ n ih =>
    rw [Nv, List.pairwise_append]
    refine ⟨ih, ?_, ?_⟩
    · refine List.pairwise_of_forall_mem_list fun a ha b hb => ?_
      rw [Kp ha, Kp hb]; exact Int.le_refl _
    · intro a ha b hb
      unfold Bc at ha
      obtain ⟨i, hi, ha⟩ := List.mem_flatMap.1 ha
      rw [Kp ha, Kp hb]
      have : i < n := by simpa using hi
      omega
theorem Q5k {own : Bool} : Ic (Dz A0 st d own) := by
  unfold Dz
  refine Q2m ?_
  unfold C8 B8
  rw [List.take_length]
  refine List.pairwise_map.2 (List.Pairwise.filter _ (List.pairwise_map.2 (List.Pairwise.filter _ (Q4c st.all st.all.length))))
theorem Q49 : Dz A0 st d true = Dy st d st.all.length := by
  refine Uo Q5k (Q3n (List.Pairwise.filter _ List.pairwise_lt_range)) fun x => ?_
  show x ∈ Dz A0 st d true ↔ x ∈ List.map _ _
  rw [List.mem_map]
  constructor
  · intro h
    obtain ⟨i, hi, rfl, _⟩ := namedL_mem.1 h
    refine ⟨i, List.mem_filter.2 ⟨List.mem_range.2 hi, ?_⟩, rfl⟩
    exact (V5 (x := (i : Int)) (by omega)).1 h
  · rintro ⟨i, hi, rfl⟩
    obtain ⟨h1, h2⟩ := List.mem_filter.1 hi
    rw [List.mem_range] at h1
    exact (V5 (by omega)).2 h2
theorem Q45 (h : Bq d = 0) (k : d.kind = 1) : Di A0 st d = (Dy st d st.all.length, 0) := by
  unfold Di Cy; rw [if_pos h, decide_eq_true k, if_pos rfl, if_pos rfl, Q49]
theorem Wk (h : Bq d = 0) (k : ¬ d.kind = 1) : Di A0 st d = ([], 70) := by
  unfold Di Cy; rw [if_pos h, decide_eq_false k]; rfl
theorem Q3 {n : Nat} (hn : n = st.all.length) (h : Bq d = 0) (k : (s.all fun x => decide (0 ≤ x) && decide (x < (n : Int))) = false) : Cd A0 st d s = (false, 69) := by
  subst hn
  unfold Cd
  rw [if_pos h, if_pos]
  rw [List.all_eq_false] at k
  obtain ⟨x, hx, k⟩ := k
  rw [List.any_eq_true]
  refine ⟨x, hx, ?_⟩
  simp only [Bool.and_eq_true, decide_eq_true_eq] at k
  simp only [Bool.or_eq_true, decide_eq_true_eq]
  omega
theorem Sr {n : Nat} (k : (s.all fun x => decide (0 ≤ x) && decide (x < (n : Int))) = true) : ∀ x ∈ s, 0 ≤ x ∧ x < n := by
  intro x hx
  have := List.all_eq_true.1 k x hx
  simpa using this
end
end Sv
end Go.Proofs.YtlfjokcbkopfeaaGreatDoor
end
section
namespace Go.Proofs.YtlfjokcbkopfeaaGreatDoor
open Go Go.RowKit
namespace Sv
attribute [local irreducible] SW SO Bg
set_option maxHeartbeats 1000000
set_option maxRecDepth 100000
theorem X21 (st : PoolT) (i : Nat) (hi : i < st.all.length) (hs : (nth st.all i).1.size ≤ 4194304) :
  Dj Tryz.prog 44 [(.ptr 0 0), (.int .i64 ((i : Int)))] [(0, (.row [(.int .i64 st.kind), (.own 1), (.own 2), (.map 3)] 92)), (1, (.grow (st.repos.map Av) 41 4)), (2, (.grow (st.all.map Am) 97 13)), (3, (.mm (Au st.all) none 3 1))] 4 (.tup [(Ak ((nth st.all i).1)), (.int .i64 ((nth st.all i).2)), (.int .i64 0)]) [(0, (.row [(.int .i64 st.kind), (.own 1), (.own 2), (.map 3)] 92)), (1, (.grow (st.repos.map Av) 41 4)), (2, (.grow (st.all.map Am) 97 13)), (3, (.mm (Au st.all) none 3 1))] := by
 have hml : (st.all.map Am).length = st.all.length := List.length_map _
 refine Fh [.cell 4 38, .tmp 5, .tmp 6] Tryz.func44 rfl Tryz.ntmps44 rfl rfl (by kernel_rfl) (by kernel_rfl) (by kernel_rfl) (fun B F hF => ?_)
 refine Aa [] [0, 1, 4] ?_
 refine Ab ?_
 refine A3 ?_
 refine Aa [] [0, 1, 4, 7] ?_
 refine Db (by kernel_rfl) ?_
 obtain ⟨b1, hb1⟩ : ∃ b, b = (decide ((i : Int) < 0)) := ⟨_, rfl⟩
 obtain ⟨b2, hb2⟩ : ∃ b, b = (b1 || (decide (((st.all.map Am).length : Int) ≤ (i : Int)))) := ⟨_, rfl⟩
 refine Ae (CS := [(5, ((!b1) = true → (!b1) = true)), (6, ((!b1) = true → (!b1) = true)), (7, ((!b1) = true → (!b1) = true)), (8, ((!b1) = true → (!b1) = true)), (9, ((!b1) = true → (!b1) = true ∧ (!b1) = true)), (10, (b1 = false → (!b1) = true))]) [15, 16, 17, 18, 19, 20, 21] [0, 1, 4, 11] [] hk0 (vk 3 14 (a := .bool (decide ((i : Int) < 0))) (b := .bool b1) (Imp.of_eq (by rw [hb1])) <| vk 11 22 (a := .bool (b1 || (decide (((st.all.map Am).length : Int) ≤ (i : Int))))) (b := .bool b2) (Imp.of_eq (by rw [hb2])) <| v0) (by refine cc _ ?_ <| cc _ ?_ <| cc _ ?_ <| cc _ ?_ <| cc _ ?_ <| cc _ ?_ c0 <;> first | omega | (simp; omega) | (simp; done) | (intros; simp_all; omega) | (intros; simp_all; done)) ?_
 refine A9 (q := b2) (by kernel_rfl) (fun c1 => ?_) (fun c1 => ?_)
 ·subst hb2 hb1
  try simp only [Al] at c1
  exfalso; simp at c1; omega
 ·subst hb2 hb1
  try simp only [Al] at c1
  refine Ai ?_
  refine Ab ?_
  refine Hr (by kernel_rfl) (fun F1 hF1 => ?_)
  refine Bn false 2 (lsD 20 [0, 1, 2, 3, 4, 5, 6, 7, 8, 9, 10, 11, 12, 13, 14, 15, 16, 17]) ⟨[(4, (.ptr 4 0)), (40, (.int .i64 ((nth st.all i).2)))], [(0, (.row [(.int .i64 st.kind), (.own 1), (.own 2), (.map 3)] 92)), (1, (.grow (st.repos.map Av) 41 4)), (2, (.grow (st.all.map Am) 97 13)), (3, (.mm (Au st.all) none 3 1)), (4, (.row [(.str (((nth st.all i).1).name)), (.str (((nth st.all i).1).evr)), (.str (((nth st.all i).1).arch)), (.str (((nth st.all i).1).vendor)), (Ah 5 Az (((nth st.all i).1).provides)), (Ah 5 Az (((nth st.all i).1).requires)), (Ah 5 Az (((nth st.all i).1).pre)), (Ah 5 Az (((nth st.all i).1).conflicts)), (Ah 5 Az (((nth st.all i).1).obsoletes)), (Ah 5 Az (((nth st.all i).1).recommends)), (Ah 5 Az (((nth st.all i).1).supplements)), (Ch (((nth st.all i).1).files))] 38))], 5⟩ ?_ (fun m1_1 => ?_)
  ·refine Cp (fuel := 0) [] [18, 19] [4, 5, 6] Aw ?_
   refine An [4, 5, 6] ?_
   refine Gn (by kernel_rfl) ?_
   refine Ag ?_
   refine Dd (.inl rfl) (al := [(Ak ((nth st.all i).1)), (.int .i64 ((nth st.all i).2)), (.int .i64 0)]) (by kernel_rfl) ?_ ((by kernel_rfl : Cq 4 _ = some [(0, (.row [(.int .i64 st.kind), (.own 1), (.own 2), (.map 3)] 92)), (1, (.grow (st.repos.map Av) 41 4)), (2, (.grow (st.all.map Am) 97 13)), (3, (.mm (Au st.all) none 3 1))]).trans ?_)
   ·rfl
   ·rfl
  refine Bn false 3 (lsD 20 [0, 1, 2, 3, 4, 5, 6, 7, 8, 9, 10, 11, 12, 13, 14, 15, 16]) ⟨[(4, (.ptr 4 0)), (32, (Ak ((nth st.all i).1))), (40, (.int .i64 ((nth st.all i).2)))], [(0, (.row [(.int .i64 st.kind), (.own 1), (.own 2), (.map 3)] 92)), (1, (.grow (st.repos.map Av) 41 4)), (2, (.grow (st.all.map Am) 97 13)), (3, (.mm (Au st.all) none 3 1)), (4, (.row [(.str []), (.str []), (.str []), (.str []), .nils, .nils, .nils, .nils, .nils, .nils, .nils, .nils] 38))], 5⟩ ?_ (fun m1_2 => ?_)
  ·refine Cs (fuel := 2) 17 [] Aw ?_
   refine An [4, 40] ?_
   exact A1 m1_1
  refine Bn false 3 (lsD 20 [0, 1, 2, 3, 4, 5, 6, 7, 8, 9, 10, 11, 12, 13, 14, 15, 17]) ⟨[(4, (.ptr 4 0)), (39, (.op 2 (i * 13 + 12)))], [(0, (.row [(.int .i64 st.kind), (.own 1), (.own 2), (.map 3)] 92)), (1, (.grow (st.repos.map Av) 41 4)), (2, (.grow (st.all.map Am) 97 13)), (3, (.mm (Au st.all) none 3 1)), (4, (.row [(.str (((nth st.all i).1).name)), (.str (((nth st.all i).1).evr)), (.str (((nth st.all i).1).arch)), (.str (((nth st.all i).1).vendor)), (Ah 5 Az (((nth st.all i).1).provides)), (Ah 5 Az (((nth st.all i).1).requires)), (Ah 5 Az (((nth st.all i).1).pre)), (Ah 5 Az (((nth st.all i).1).conflicts)), (Ah 5 Az (((nth st.all i).1).obsoletes)), (Ah 5 Az (((nth st.all i).1).recommends)), (Ah 5 Az (((nth st.all i).1).supplements)), (Ch (((nth st.all i).1).files))] 38))], 5⟩ ?_ (fun m1_3 => ?_)
  ·refine Dt (fuel := 2) 16 (by kernel_rfl) ?_
   refine Bm (fuel := 2) 16 rfl ?_
   refine E1 (b := 2) (e := 97) (sz := 13) (es := st.all.map Am) (o := i * 13 + 12) (i := i) (j := 12) (a := (Am (nth st.all i))) (r := (.int .i64 ((nth st.all i).2))) (s' := [(4, (.ptr 4 0)), (39, (.op 2 (i * 13 + 12))), (40, (.int .i64 ((nth st.all i).2)))]) (by kernel_rfl) (by kernel_rfl) rfl (by kernel_rfl) (Eo (l := st.all) Am (by omega)) (by kernel_rfl) (by kernel_rfl) ?_
   refine Be ⟨rfl, ?_⟩
   refine An [4, 40] ?_
   exact A1 m1_1
  refine Bn false 4 (lsD 20 [0, 1, 2, 3, 4, 5, 6, 7, 8, 9, 10, 11, 12, 13, 14, 15]) ⟨[(4, (.ptr 4 0)), (32, (Ak ((nth st.all i).1))), (39, (.op 2 (i * 13 + 12)))], [(0, (.row [(.int .i64 st.kind), (.own 1), (.own 2), (.map 3)] 92)), (1, (.grow (st.repos.map Av) 41 4)), (2, (.grow (st.all.map Am) 97 13)), (3, (.mm (Au st.all) none 3 1)), (4, (.row [(.str []), (.str []), (.str []), (.str []), .nils, .nils, .nils, .nils, .nils, .nils, .nils, .nils] 38))], 5⟩ ?_ (fun m1_4 => ?_)
  ·refine Bp 16 17 (by kernel_rfl) ?_ ?_
   ·refine Bm (fuel := 3) 16 rfl ?_
    refine E1 (b := 2) (e := 97) (sz := 13) (es := st.all.map Am) (o := i * 13 + 12) (i := i) (j := 12) (a := (Am (nth st.all i))) (r := (.int .i64 ((nth st.all i).2))) (s' := [(4, (.ptr 4 0)), (32, (Ak ((nth st.all i).1))), (39, (.op 2 (i * 13 + 12))), (40, (.int .i64 ((nth st.all i).2)))]) (by kernel_rfl) (by kernel_rfl) rfl (by kernel_rfl) (Eo (l := st.all) Am (by omega)) (by kernel_rfl) (by kernel_rfl) ?_
    refine Be ⟨rfl, ?_⟩
    refine An [4, 32, 40] ?_
    exact A1 m1_2
   ·refine Bb (fuel := 3) 17 [] Aw ?_
    refine An [4, 39] ?_
    exact A1 m1_3
  refine Bn false 4 (lsD 20 [0, 1, 2, 3, 4, 5, 6, 7, 8, 9, 10, 11, 12, 13, 14, 17]) ⟨[(4, (.ptr 4 0)), (38, (.op 2 (i * 13)))], [(0, (.row [(.int .i64 st.kind), (.own 1), (.own 2), (.map 3)] 92)), (1, (.grow (st.repos.map Av) 41 4)), (2, (.grow (st.all.map Am) 97 13)), (3, (.mm (Au st.all) none 3 1)), (4, (.row [(.str (((nth st.all i).1).name)), (.str (((nth st.all i).1).evr)), (.str (((nth st.all i).1).arch)), (.str (((nth st.all i).1).vendor)), (Ah 5 Az (((nth st.all i).1).provides)), (Ah 5 Az (((nth st.all i).1).requires)), (Ah 5 Az (((nth st.all i).1).pre)), (Ah 5 Az (((nth st.all i).1).conflicts)), (Ah 5 Az (((nth st.all i).1).obsoletes)), (Ah 5 Az (((nth st.all i).1).recommends)), (Ah 5 Az (((nth st.all i).1).supplements)), (Ch (((nth st.all i).1).files))] 38))], 5⟩ ?_ (fun m1_5 => ?_)
  ·refine Dt (fuel := 3) 15 (by kernel_rfl) ?_
   refine Bm (fuel := 3) 15 rfl ?_
   refine E2 (b := 2) (o := i * 13) (off := 12) (s' := [(4, (.ptr 4 0)), (38, (.op 2 (i * 13))), (39, (.op 2 (i * 13 + 12)))]) (by kernel_rfl) (by kernel_rfl) (by kernel_rfl) (by kernel_rfl) ?_
   refine Be ⟨rfl, ?_⟩
   refine An [4, 39] ?_
   exact A1 m1_3
  refine Bn false 4 (lsD 20 [0, 1, 2, 3, 4, 5, 6, 7, 9, 10, 11, 12, 13, 14, 15, 16]) ⟨[(4, (.ptr 4 0)), (31, (Ak ((nth st.all i).1))), (40, (.int .i64 ((nth st.all i).2)))], [(0, (.row [(.int .i64 st.kind), (.own 1), (.own 2), (.map 3)] 92)), (1, (.grow (st.repos.map Av) 41 4)), (2, (.grow (st.all.map Am) 97 13)), (3, (.mm (Au st.all) none 3 1)), (4, (.row [(.str []), (.str []), (.str []), (.str []), .nils, .nils, .nils, .nils, .nils, .nils, .nils, .nils] 38))], 5⟩ ?_ (fun m1_6 => ?_)
  ·refine X2m (s' := [(4, (.ptr 4 0)), (31, (Ak ((nth st.all i).1))), (40, (.int .i64 ((nth st.all i).2))), (32, (Ak ((nth st.all i).1)))]) (fuel := 3) 8 (al := [(Ak ((nth st.all i).1))]) (r := (Ak ((nth st.all i).1))) (by kernel_rfl) rfl (by kernel_rfl) (by exact Jw) (by kernel_rfl) (by kernel_rfl) (J0 (nth st.all i).1 (by have := (nth st.all i).1.sizes; omega) (by have := (nth st.all i).1.sizes; have := Fb (nth st.all i).1.files; omega)) (by kernel_rfl) ?_
   refine An [4, 32, 40] ?_
   exact A1 m1_2
  refine Bn false 5 (lsD 20 [0, 1, 2, 3, 4, 5, 6, 7, 8, 9, 10, 11, 12, 13, 14]) ⟨[(4, (.ptr 4 0)), (32, (Ak ((nth st.all i).1))), (38, (.op 2 (i * 13)))], [(0, (.row [(.int .i64 st.kind), (.own 1), (.own 2), (.map 3)] 92)), (1, (.grow (st.repos.map Av) 41 4)), (2, (.grow (st.all.map Am) 97 13)), (3, (.mm (Au st.all) none 3 1)), (4, (.row [(.str []), (.str []), (.str []), (.str []), .nils, .nils, .nils, .nils, .nils, .nils, .nils, .nils] 38))], 5⟩ ?_ (fun m1_7 => ?_)
  ·refine Bp 15 17 (by kernel_rfl) ?_ ?_
   ·refine Bm (fuel := 4) 15 rfl ?_
    refine E2 (b := 2) (o := i * 13) (off := 12) (s' := [(4, (.ptr 4 0)), (32, (Ak ((nth st.all i).1))), (38, (.op 2 (i * 13))), (39, (.op 2 (i * 13 + 12)))]) (by kernel_rfl) (by kernel_rfl) (by kernel_rfl) (by kernel_rfl) ?_
    refine Be ⟨rfl, ?_⟩
    refine An [4, 32, 39] ?_
    exact A1 m1_4
   ·refine Bb (fuel := 4) 17 [] Aw ?_
    refine An [4, 38] ?_
    exact A1 m1_5
  refine Bn false 5 (lsD 20 [0, 1, 2, 3, 4, 5, 6, 7, 8, 9, 10, 11, 12, 13, 17]) ⟨[(4, (.ptr 4 0)), (36, (.own 2)), (37, (.int .i64 ((i : Int))))], [(0, (.row [(.int .i64 st.kind), (.own 1), (.own 2), (.map 3)] 92)), (1, (.grow (st.repos.map Av) 41 4)), (2, (.grow (st.all.map Am) 97 13)), (3, (.mm (Au st.all) none 3 1)), (4, (.row [(.str (((nth st.all i).1).name)), (.str (((nth st.all i).1).evr)), (.str (((nth st.all i).1).arch)), (.str (((nth st.all i).1).vendor)), (Ah 5 Az (((nth st.all i).1).provides)), (Ah 5 Az (((nth st.all i).1).requires)), (Ah 5 Az (((nth st.all i).1).pre)), (Ah 5 Az (((nth st.all i).1).conflicts)), (Ah 5 Az (((nth st.all i).1).obsoletes)), (Ah 5 Az (((nth st.all i).1).recommends)), (Ah 5 Az (((nth st.all i).1).supplements)), (Ch (((nth st.all i).1).files))] 38))], 5⟩ ?_ (fun m1_8 => ?_)
  ·refine Dt (fuel := 4) 14 (by kernel_rfl) ?_
   refine Bm (fuel := 4) 14 rfl ?_
   refine Et (b := 2) (i := i) (es := st.all.map Am) (e := 97) (sz := 13) (k := .i64) (s' := [(4, (.ptr 4 0)), (36, (.own 2)), (37, (.int .i64 ((i : Int)))), (38, (.op 2 (i * 13)))]) (by kernel_rfl) (by kernel_rfl) (by kernel_rfl) (by kernel_rfl) (by kernel_rfl) (by kernel_rfl) (by omega) (by kernel_rfl) ?_
   refine Be ⟨rfl, ?_⟩
   refine An [4, 38] ?_
   exact A1 m1_5
  refine Bn false 5 (lsD 20 [0, 1, 2, 3, 4, 5, 6, 7, 9, 10, 11, 12, 13, 14, 15]) ⟨[(4, (.ptr 4 0)), (31, (Ak ((nth st.all i).1))), (39, (.op 2 (i * 13 + 12)))], [(0, (.row [(.int .i64 st.kind), (.own 1), (.own 2), (.map 3)] 92)), (1, (.grow (st.repos.map Av) 41 4)), (2, (.grow (st.all.map Am) 97 13)), (3, (.mm (Au st.all) none 3 1)), (4, (.row [(.str []), (.str []), (.str []), (.str []), .nils, .nils, .nils, .nils, .nils, .nils, .nils, .nils] 38))], 5⟩ ?_ (fun m1_9 => ?_)
  ·refine Bp 8 16 (by kernel_rfl) ?_ ?_
   ·refine M6 (s' := [(4, (.ptr 4 0)), (31, (Ak ((nth st.all i).1))), (39, (.op 2 (i * 13 + 12))), (32, (Ak ((nth st.all i).1)))]) (fuel := 4) 8 (al := [(Ak ((nth st.all i).1))]) (r := (Ak ((nth st.all i).1))) rfl (by kernel_rfl) (by exact Jw) (by kernel_rfl) (by kernel_rfl) (J0 (nth st.all i).1 (by have := (nth st.all i).1.sizes; omega) (by have := (nth st.all i).1.sizes; have := Fb (nth st.all i).1.files; omega)) (by kernel_rfl) ?_
    refine An [4, 32, 39] ?_
    exact A1 m1_4
   ·refine Bm (fuel := 4) 16 rfl ?_
    refine E1 (b := 2) (e := 97) (sz := 13) (es := st.all.map Am) (o := i * 13 + 12) (i := i) (j := 12) (a := (Am (nth st.all i))) (r := (.int .i64 ((nth st.all i).2))) (s' := [(4, (.ptr 4 0)), (31, (Ak ((nth st.all i).1))), (39, (.op 2 (i * 13 + 12))), (40, (.int .i64 ((nth st.all i).2)))]) (by kernel_rfl) (by kernel_rfl) rfl (by kernel_rfl) (Eo (l := st.all) Am (by omega)) (by kernel_rfl) (by kernel_rfl) ?_
    refine Be ⟨rfl, ?_⟩
    refine An [4, 31, 40] ?_
    exact A1 m1_6
  refine Bn false 5 (lsD 20 [0, 1, 2, 3, 4, 5, 6, 9, 10, 11, 12, 13, 14, 15, 16]) ⟨[(4, (.ptr 4 0)), (30, (.op 2 (i * 13 + 0))), (40, (.int .i64 ((nth st.all i).2)))], [(0, (.row [(.int .i64 st.kind), (.own 1), (.own 2), (.map 3)] 92)), (1, (.grow (st.repos.map Av) 41 4)), (2, (.grow (st.all.map Am) 97 13)), (3, (.mm (Au st.all) none 3 1)), (4, (.row [(.str []), (.str []), (.str []), (.str []), .nils, .nils, .nils, .nils, .nils, .nils, .nils, .nils] 38))], 5⟩ ?_ (fun m1_10 => ?_)
  ·refine Dt (fuel := 4) 7 (by kernel_rfl) ?_
   refine Bm (fuel := 4) 7 rfl ?_
   refine E1 (b := 2) (e := 97) (sz := 13) (es := st.all.map Am) (o := i * 13 + 0) (i := i) (j := 0) (a := (Am (nth st.all i))) (r := (Ak ((nth st.all i).1))) (s' := [(4, (.ptr 4 0)), (30, (.op 2 (i * 13 + 0))), (40, (.int .i64 ((nth st.all i).2))), (31, (Ak ((nth st.all i).1)))]) (by kernel_rfl) (by kernel_rfl) rfl (by kernel_rfl) (Eo (l := st.all) Am (by omega)) (by kernel_rfl) (by kernel_rfl) ?_
   refine Be ⟨rfl, ?_⟩
   refine An [4, 31, 40] ?_
   exact A1 m1_6
  refine Bn false 6 (lsD 20 [0, 1, 2, 3, 4, 5, 6, 7, 8, 9, 10, 11, 12, 13]) ⟨[(4, (.ptr 4 0)), (32, (Ak ((nth st.all i).1))), (36, (.own 2)), (37, (.int .i64 ((i : Int))))], [(0, (.row [(.int .i64 st.kind), (.own 1), (.own 2), (.map 3)] 92)), (1, (.grow (st.repos.map Av) 41 4)), (2, (.grow (st.all.map Am) 97 13)), (3, (.mm (Au st.all) none 3 1)), (4, (.row [(.str []), (.str []), (.str []), (.str []), .nils, .nils, .nils, .nils, .nils, .nils, .nils, .nils] 38))], 5⟩ ?_ (fun m1_11 => ?_)
  ·refine Bp 14 17 (by kernel_rfl) ?_ ?_
   ·refine Bm (fuel := 5) 14 rfl ?_
    refine Et (b := 2) (i := i) (es := st.all.map Am) (e := 97) (sz := 13) (k := .i64) (s' := [(4, (.ptr 4 0)), (32, (Ak ((nth st.all i).1))), (36, (.own 2)), (37, (.int .i64 ((i : Int)))), (38, (.op 2 (i * 13)))]) (by kernel_rfl) (by kernel_rfl) (by kernel_rfl) (by kernel_rfl) (by kernel_rfl) (by kernel_rfl) (by omega) (by kernel_rfl) ?_
    refine Be ⟨rfl, ?_⟩
    refine An [4, 32, 38] ?_
    exact A1 m1_7
   ·refine Bb (fuel := 5) 17 [] Aw ?_
    refine An [4, 36, 37] ?_
    exact A1 m1_8
  refine Bn false 6 (lsD 20 [0, 1, 2, 3, 4, 5, 6, 7, 9, 10, 11, 12, 13, 14]) ⟨[(4, (.ptr 4 0)), (31, (Ak ((nth st.all i).1))), (38, (.op 2 (i * 13)))], [(0, (.row [(.int .i64 st.kind), (.own 1), (.own 2), (.map 3)] 92)), (1, (.grow (st.repos.map Av) 41 4)), (2, (.grow (st.all.map Am) 97 13)), (3, (.mm (Au st.all) none 3 1)), (4, (.row [(.str []), (.str []), (.str []), (.str []), .nils, .nils, .nils, .nils, .nils, .nils, .nils, .nils] 38))], 5⟩ ?_ (fun m1_12 => ?_)
  ·refine Bp 8 15 (by kernel_rfl) ?_ ?_
   ·refine M6 (s' := [(4, (.ptr 4 0)), (31, (Ak ((nth st.all i).1))), (38, (.op 2 (i * 13))), (32, (Ak ((nth st.all i).1)))]) (fuel := 5) 8 (al := [(Ak ((nth st.all i).1))]) (r := (Ak ((nth st.all i).1))) rfl (by kernel_rfl) (by exact Jw) (by kernel_rfl) (by kernel_rfl) (J0 (nth st.all i).1 (by have := (nth st.all i).1.sizes; omega) (by have := (nth st.all i).1.sizes; have := Fb (nth st.all i).1.files; omega)) (by kernel_rfl) ?_
    refine An [4, 32, 38] ?_
    exact A1 m1_7
   ·refine Bm (fuel := 5) 15 rfl ?_
    refine E2 (b := 2) (o := i * 13) (off := 12) (s' := [(4, (.ptr 4 0)), (31, (Ak ((nth st.all i).1))), (38, (.op 2 (i * 13))), (39, (.op 2 (i * 13 + 12)))]) (by kernel_rfl) (by kernel_rfl) (by kernel_rfl) (by kernel_rfl) ?_
    refine Be ⟨rfl, ?_⟩
    refine An [4, 31, 39] ?_
    exact A1 m1_9
  refine Bn false 6 (lsD 20 [0, 1, 2, 3, 4, 5, 6, 9, 10, 11, 12, 13, 14, 15]) ⟨[(4, (.ptr 4 0)), (30, (.op 2 (i * 13 + 0))), (39, (.op 2 (i * 13 + 12)))], [(0, (.row [(.int .i64 st.kind), (.own 1), (.own 2), (.map 3)] 92)), (1, (.grow (st.repos.map Av) 41 4)), (2, (.grow (st.all.map Am) 97 13)), (3, (.mm (Au st.all) none 3 1)), (4, (.row [(.str []), (.str []), (.str []), (.str []), .nils, .nils, .nils, .nils, .nils, .nils, .nils, .nils] 38))], 5⟩ ?_ (fun m1_13 => ?_)
  ·refine Bp 7 16 (by kernel_rfl) ?_ ?_
   ·refine Bm (fuel := 5) 7 rfl ?_
    refine E1 (b := 2) (e := 97) (sz := 13) (es := st.all.map Am) (o := i * 13 + 0) (i := i) (j := 0) (a := (Am (nth st.all i))) (r := (Ak ((nth st.all i).1))) (s' := [(4, (.ptr 4 0)), (30, (.op 2 (i * 13 + 0))), (39, (.op 2 (i * 13 + 12))), (31, (Ak ((nth st.all i).1)))]) (by kernel_rfl) (by kernel_rfl) rfl (by kernel_rfl) (Eo (l := st.all) Am (by omega)) (by kernel_rfl) (by kernel_rfl) ?_
    refine Be ⟨rfl, ?_⟩
    refine An [4, 31, 39] ?_
    exact A1 m1_9
   ·refine Bm (fuel := 5) 16 rfl ?_
    refine E1 (b := 2) (e := 97) (sz := 13) (es := st.all.map Am) (o := i * 13 + 12) (i := i) (j := 12) (a := (Am (nth st.all i))) (r := (.int .i64 ((nth st.all i).2))) (s' := [(4, (.ptr 4 0)), (30, (.op 2 (i * 13 + 0))), (39, (.op 2 (i * 13 + 12))), (40, (.int .i64 ((nth st.all i).2)))]) (by kernel_rfl) (by kernel_rfl) rfl (by kernel_rfl) (Eo (l := st.all) Am (by omega)) (by kernel_rfl) (by kernel_rfl) ?_
    refine Be ⟨rfl, ?_⟩
    refine An [4, 30, 40] ?_
    exact A1 m1_10
  refine Bn false 6 (lsD 20 [0, 1, 2, 3, 4, 5, 9, 10, 11, 12, 13, 14, 15, 16]) ⟨[(4, (.ptr 4 0)), (29, (.op 2 (i * 13))), (40, (.int .i64 ((nth st.all i).2)))], [(0, (.row [(.int .i64 st.kind), (.own 1), (.own 2), (.map 3)] 92)), (1, (.grow (st.repos.map Av) 41 4)), (2, (.grow (st.all.map Am) 97 13)), (3, (.mm (Au st.all) none 3 1)), (4, (.row [(.str []), (.str []), (.str []), (.str []), .nils, .nils, .nils, .nils, .nils, .nils, .nils, .nils] 38))], 5⟩ ?_ (fun m1_14 => ?_)
  ·refine Dt (fuel := 5) 6 (by kernel_rfl) ?_
   refine Bm (fuel := 5) 6 rfl ?_
   refine E2 (b := 2) (o := i * 13) (off := 0) (s' := [(4, (.ptr 4 0)), (29, (.op 2 (i * 13))), (40, (.int .i64 ((nth st.all i).2))), (30, (.op 2 (i * 13 + 0)))]) (by kernel_rfl) (by kernel_rfl) (by kernel_rfl) (by kernel_rfl) ?_
   refine Be ⟨rfl, ?_⟩
   refine An [4, 30, 40] ?_
   exact A1 m1_10
  refine Bn false 7 (lsD 20 [0, 1, 2, 3, 4, 5, 6, 7, 9, 10, 11, 12, 13]) ⟨[(4, (.ptr 4 0)), (31, (Ak ((nth st.all i).1))), (36, (.own 2)), (37, (.int .i64 ((i : Int))))], [(0, (.row [(.int .i64 st.kind), (.own 1), (.own 2), (.map 3)] 92)), (1, (.grow (st.repos.map Av) 41 4)), (2, (.grow (st.all.map Am) 97 13)), (3, (.mm (Au st.all) none 3 1)), (4, (.row [(.str []), (.str []), (.str []), (.str []), .nils, .nils, .nils, .nils, .nils, .nils, .nils, .nils] 38))], 5⟩ ?_ (fun m1_15 => ?_)
  ·refine Bp 8 14 (by kernel_rfl) ?_ ?_
   ·refine M6 (s' := [(4, (.ptr 4 0)), (31, (Ak ((nth st.all i).1))), (36, (.own 2)), (37, (.int .i64 ((i : Int)))), (32, (Ak ((nth st.all i).1)))]) (fuel := 6) 8 (al := [(Ak ((nth st.all i).1))]) (r := (Ak ((nth st.all i).1))) rfl (by kernel_rfl) (by exact Jw) (by kernel_rfl) (by kernel_rfl) (J0 (nth st.all i).1 (by have := (nth st.all i).1.sizes; omega) (by have := (nth st.all i).1.sizes; have := Fb (nth st.all i).1.files; omega)) (by kernel_rfl) ?_
    refine An [4, 32, 36, 37] ?_
    exact A1 m1_11
   ·refine Bm (fuel := 6) 14 rfl ?_
    refine Et (b := 2) (i := i) (es := st.all.map Am) (e := 97) (sz := 13) (k := .i64) (s' := [(4, (.ptr 4 0)), (31, (Ak ((nth st.all i).1))), (36, (.own 2)), (37, (.int .i64 ((i : Int)))), (38, (.op 2 (i * 13)))]) (by kernel_rfl) (by kernel_rfl) (by kernel_rfl) (by kernel_rfl) (by kernel_rfl) (by kernel_rfl) (by omega) (by kernel_rfl) ?_
    refine Be ⟨rfl, ?_⟩
    refine An [4, 31, 38] ?_
    exact A1 m1_12
  refine Bn false 7 (lsD 20 [0, 1, 2, 3, 4, 5, 6, 9, 10, 11, 12, 13, 14]) ⟨[(4, (.ptr 4 0)), (30, (.op 2 (i * 13 + 0))), (38, (.op 2 (i * 13)))], [(0, (.row [(.int .i64 st.kind), (.own 1), (.own 2), (.map 3)] 92)), (1, (.grow (st.repos.map Av) 41 4)), (2, (.grow (st.all.map Am) 97 13)), (3, (.mm (Au st.all) none 3 1)), (4, (.row [(.str []), (.str []), (.str []), (.str []), .nils, .nils, .nils, .nils, .nils, .nils, .nils, .nils] 38))], 5⟩ ?_ (fun m1_16 => ?_)
  ·refine Bp 7 15 (by kernel_rfl) ?_ ?_
   ·refine Bm (fuel := 6) 7 rfl ?_
    refine E1 (b := 2) (e := 97) (sz := 13) (es := st.all.map Am) (o := i * 13 + 0) (i := i) (j := 0) (a := (Am (nth st.all i))) (r := (Ak ((nth st.all i).1))) (s' := [(4, (.ptr 4 0)), (30, (.op 2 (i * 13 + 0))), (38, (.op 2 (i * 13))), (31, (Ak ((nth st.all i).1)))]) (by kernel_rfl) (by kernel_rfl) rfl (by kernel_rfl) (Eo (l := st.all) Am (by omega)) (by kernel_rfl) (by kernel_rfl) ?_
    refine Be ⟨rfl, ?_⟩
    refine An [4, 31, 38] ?_
    exact A1 m1_12
   ·refine Bm (fuel := 6) 15 rfl ?_
    refine E2 (b := 2) (o := i * 13) (off := 12) (s' := [(4, (.ptr 4 0)), (30, (.op 2 (i * 13 + 0))), (38, (.op 2 (i * 13))), (39, (.op 2 (i * 13 + 12)))]) (by kernel_rfl) (by kernel_rfl) (by kernel_rfl) (by kernel_rfl) ?_
    refine Be ⟨rfl, ?_⟩
    refine An [4, 30, 39] ?_
    exact A1 m1_13
  refine Bn false 7 (lsD 20 [0, 1, 2, 3, 4, 5, 9, 10, 11, 12, 13, 14, 15]) ⟨[(4, (.ptr 4 0)), (29, (.op 2 (i * 13))), (39, (.op 2 (i * 13 + 12)))], [(0, (.row [(.int .i64 st.kind), (.own 1), (.own 2), (.map 3)] 92)), (1, (.grow (st.repos.map Av) 41 4)), (2, (.grow (st.all.map Am) 97 13)), (3, (.mm (Au st.all) none 3 1)), (4, (.row [(.str []), (.str []), (.str []), (.str []), .nils, .nils, .nils, .nils, .nils, .nils, .nils, .nils] 38))], 5⟩ ?_ (fun m1_17 => ?_)
  ·refine Bp 6 16 (by kernel_rfl) ?_ ?_
   ·refine Bm (fuel := 6) 6 rfl ?_
    refine E2 (b := 2) (o := i * 13) (off := 0) (s' := [(4, (.ptr 4 0)), (29, (.op 2 (i * 13))), (39, (.op 2 (i * 13 + 12))), (30, (.op 2 (i * 13 + 0)))]) (by kernel_rfl) (by kernel_rfl) (by kernel_rfl) (by kernel_rfl) ?_
    refine Be ⟨rfl, ?_⟩
    refine An [4, 30, 39] ?_
    exact A1 m1_13
   ·refine Bm (fuel := 6) 16 rfl ?_
    refine E1 (b := 2) (e := 97) (sz := 13) (es := st.all.map Am) (o := i * 13 + 12) (i := i) (j := 12) (a := (Am (nth st.all i))) (r := (.int .i64 ((nth st.all i).2))) (s' := [(4, (.ptr 4 0)), (29, (.op 2 (i * 13))), (39, (.op 2 (i * 13 + 12))), (40, (.int .i64 ((nth st.all i).2)))]) (by kernel_rfl) (by kernel_rfl) rfl (by kernel_rfl) (Eo (l := st.all) Am (by omega)) (by kernel_rfl) (by kernel_rfl) ?_
    refine Be ⟨rfl, ?_⟩
    refine An [4, 29, 40] ?_
    exact A1 m1_14
  refine Bn false 7 (lsD 20 [0, 1, 2, 3, 4, 9, 10, 11, 12, 13, 14, 15, 16]) ⟨[(4, (.ptr 4 0)), (27, (.own 2)), (28, (.int .i64 ((i : Int)))), (40, (.int .i64 ((nth st.all i).2)))], [(0, (.row [(.int .i64 st.kind), (.own 1), (.own 2), (.map 3)] 92)), (1, (.grow (st.repos.map Av) 41 4)), (2, (.grow (st.all.map Am) 97 13)), (3, (.mm (Au st.all) none 3 1)), (4, (.row [(.str []), (.str []), (.str []), (.str []), .nils, .nils, .nils, .nils, .nils, .nils, .nils, .nils] 38))], 5⟩ ?_ (fun m1_18 => ?_)
  ·refine Dt (fuel := 6) 5 (by kernel_rfl) ?_
   refine Bm (fuel := 6) 5 rfl ?_
   refine Et (b := 2) (i := i) (es := st.all.map Am) (e := 97) (sz := 13) (k := .i64) (s' := [(4, (.ptr 4 0)), (27, (.own 2)), (28, (.int .i64 ((i : Int)))), (40, (.int .i64 ((nth st.all i).2))), (29, (.op 2 (i * 13)))]) (by kernel_rfl) (by kernel_rfl) (by kernel_rfl) (by kernel_rfl) (by kernel_rfl) (by kernel_rfl) (by omega) (by kernel_rfl) ?_
   refine Be ⟨rfl, ?_⟩
   refine An [4, 29, 40] ?_
   exact A1 m1_14
  refine Bn false 8 (lsD 20 [0, 1, 2, 3, 4, 5, 6, 9, 10, 11, 12, 13]) ⟨[(4, (.ptr 4 0)), (30, (.op 2 (i * 13 + 0))), (36, (.own 2)), (37, (.int .i64 ((i : Int))))], [(0, (.row [(.int .i64 st.kind), (.own 1), (.own 2), (.map 3)] 92)), (1, (.grow (st.repos.map Av) 41 4)), (2, (.grow (st.all.map Am) 97 13)), (3, (.mm (Au st.all) none 3 1)), (4, (.row [(.str []), (.str []), (.str []), (.str []), .nils, .nils, .nils, .nils, .nils, .nils, .nils, .nils] 38))], 5⟩ ?_ (fun m1_19 => ?_)
  ·refine Bp 7 14 (by kernel_rfl) ?_ ?_
   ·refine Bm (fuel := 7) 7 rfl ?_
    refine E1 (b := 2) (e := 97) (sz := 13) (es := st.all.map Am) (o := i * 13 + 0) (i := i) (j := 0) (a := (Am (nth st.all i))) (r := (Ak ((nth st.all i).1))) (s' := [(4, (.ptr 4 0)), (30, (.op 2 (i * 13 + 0))), (36, (.own 2)), (37, (.int .i64 ((i : Int)))), (31, (Ak ((nth st.all i).1)))]) (by kernel_rfl) (by kernel_rfl) rfl (by kernel_rfl) (Eo (l := st.all) Am (by omega)) (by kernel_rfl) (by kernel_rfl) ?_
    refine Be ⟨rfl, ?_⟩
    refine An [4, 31, 36, 37] ?_
    exact A1 m1_15
   ·refine Bm (fuel := 7) 14 rfl ?_
    refine Et (b := 2) (i := i) (es := st.all.map Am) (e := 97) (sz := 13) (k := .i64) (s' := [(4, (.ptr 4 0)), (30, (.op 2 (i * 13 + 0))), (36, (.own 2)), (37, (.int .i64 ((i : Int)))), (38, (.op 2 (i * 13)))]) (by kernel_rfl) (by kernel_rfl) (by kernel_rfl) (by kernel_rfl) (by kernel_rfl) (by kernel_rfl) (by omega) (by kernel_rfl) ?_
    refine Be ⟨rfl, ?_⟩
    refine An [4, 30, 38] ?_
    exact A1 m1_16
  refine Bn false 8 (lsD 20 [0, 1, 2, 3, 4, 5, 9, 10, 11, 12, 13, 14]) ⟨[(4, (.ptr 4 0)), (29, (.op 2 (i * 13))), (38, (.op 2 (i * 13)))], [(0, (.row [(.int .i64 st.kind), (.own 1), (.own 2), (.map 3)] 92)), (1, (.grow (st.repos.map Av) 41 4)), (2, (.grow (st.all.map Am) 97 13)), (3, (.mm (Au st.all) none 3 1)), (4, (.row [(.str []), (.str []), (.str []), (.str []), .nils, .nils, .nils, .nils, .nils, .nils, .nils, .nils] 38))], 5⟩ ?_ (fun m1_20 => ?_)
  ·refine Bp 6 15 (by kernel_rfl) ?_ ?_
   ·refine Bm (fuel := 7) 6 rfl ?_
    refine E2 (b := 2) (o := i * 13) (off := 0) (s' := [(4, (.ptr 4 0)), (29, (.op 2 (i * 13))), (38, (.op 2 (i * 13))), (30, (.op 2 (i * 13 + 0)))]) (by kernel_rfl) (by kernel_rfl) (by kernel_rfl) (by kernel_rfl) ?_
    refine Be ⟨rfl, ?_⟩
    refine An [4, 30, 38] ?_
    exact A1 m1_16
   ·refine Bm (fuel := 7) 15 rfl ?_
    refine E2 (b := 2) (o := i * 13) (off := 12) (s' := [(4, (.ptr 4 0)), (29, (.op 2 (i * 13))), (38, (.op 2 (i * 13))), (39, (.op 2 (i * 13 + 12)))]) (by kernel_rfl) (by kernel_rfl) (by kernel_rfl) (by kernel_rfl) ?_
    refine Be ⟨rfl, ?_⟩
    refine An [4, 29, 39] ?_
    exact A1 m1_17
  refine Bn false 8 (lsD 20 [0, 1, 2, 3, 4, 9, 10, 11, 12, 13, 14, 15]) ⟨[(4, (.ptr 4 0)), (27, (.own 2)), (28, (.int .i64 ((i : Int)))), (39, (.op 2 (i * 13 + 12)))], [(0, (.row [(.int .i64 st.kind), (.own 1), (.own 2), (.map 3)] 92)), (1, (.grow (st.repos.map Av) 41 4)), (2, (.grow (st.all.map Am) 97 13)), (3, (.mm (Au st.all) none 3 1)), (4, (.row [(.str []), (.str []), (.str []), (.str []), .nils, .nils, .nils, .nils, .nils, .nils, .nils, .nils] 38))], 5⟩ ?_ (fun m1_21 => ?_)
  ·refine Bp 5 16 (by kernel_rfl) ?_ ?_
   ·refine Bm (fuel := 7) 5 rfl ?_
    refine Et (b := 2) (i := i) (es := st.all.map Am) (e := 97) (sz := 13) (k := .i64) (s' := [(4, (.ptr 4 0)), (27, (.own 2)), (28, (.int .i64 ((i : Int)))), (39, (.op 2 (i * 13 + 12))), (29, (.op 2 (i * 13)))]) (by kernel_rfl) (by kernel_rfl) (by kernel_rfl) (by kernel_rfl) (by kernel_rfl) (by kernel_rfl) (by omega) (by kernel_rfl) ?_
    refine Be ⟨rfl, ?_⟩
    refine An [4, 29, 39] ?_
    exact A1 m1_17
   ·refine Bm (fuel := 7) 16 rfl ?_
    refine E1 (b := 2) (e := 97) (sz := 13) (es := st.all.map Am) (o := i * 13 + 12) (i := i) (j := 12) (a := (Am (nth st.all i))) (r := (.int .i64 ((nth st.all i).2))) (s' := [(4, (.ptr 4 0)), (27, (.own 2)), (28, (.int .i64 ((i : Int)))), (39, (.op 2 (i * 13 + 12))), (40, (.int .i64 ((nth st.all i).2)))]) (by kernel_rfl) (by kernel_rfl) rfl (by kernel_rfl) (Eo (l := st.all) Am (by omega)) (by kernel_rfl) (by kernel_rfl) ?_
    refine Be ⟨rfl, ?_⟩
    refine An [4, 27, 28, 40] ?_
    exact A1 m1_18
  refine Bn false 9 (lsD 20 [0, 1, 2, 3, 4, 5, 9, 10, 11, 12, 13]) ⟨[(4, (.ptr 4 0)), (29, (.op 2 (i * 13))), (36, (.own 2)), (37, (.int .i64 ((i : Int))))], [(0, (.row [(.int .i64 st.kind), (.own 1), (.own 2), (.map 3)] 92)), (1, (.grow (st.repos.map Av) 41 4)), (2, (.grow (st.all.map Am) 97 13)), (3, (.mm (Au st.all) none 3 1)), (4, (.row [(.str []), (.str []), (.str []), (.str []), .nils, .nils, .nils, .nils, .nils, .nils, .nils, .nils] 38))], 5⟩ ?_ (fun m1_22 => ?_)
  ·refine Bp 6 14 (by kernel_rfl) ?_ ?_
   ·refine Bm (fuel := 8) 6 rfl ?_
    refine E2 (b := 2) (o := i * 13) (off := 0) (s' := [(4, (.ptr 4 0)), (29, (.op 2 (i * 13))), (36, (.own 2)), (37, (.int .i64 ((i : Int)))), (30, (.op 2 (i * 13 + 0)))]) (by kernel_rfl) (by kernel_rfl) (by kernel_rfl) (by kernel_rfl) ?_
    refine Be ⟨rfl, ?_⟩
    refine An [4, 30, 36, 37] ?_
    exact A1 m1_19
   ·refine Bm (fuel := 8) 14 rfl ?_
    refine Et (b := 2) (i := i) (es := st.all.map Am) (e := 97) (sz := 13) (k := .i64) (s' := [(4, (.ptr 4 0)), (29, (.op 2 (i * 13))), (36, (.own 2)), (37, (.int .i64 ((i : Int)))), (38, (.op 2 (i * 13)))]) (by kernel_rfl) (by kernel_rfl) (by kernel_rfl) (by kernel_rfl) (by kernel_rfl) (by kernel_rfl) (by omega) (by kernel_rfl) ?_
    refine Be ⟨rfl, ?_⟩
    refine An [4, 29, 38] ?_
    exact A1 m1_20
  refine Bn false 9 (lsD 20 [0, 1, 2, 3, 4, 9, 10, 11, 12, 13, 14]) ⟨[(4, (.ptr 4 0)), (27, (.own 2)), (28, (.int .i64 ((i : Int)))), (38, (.op 2 (i * 13)))], [(0, (.row [(.int .i64 st.kind), (.own 1), (.own 2), (.map 3)] 92)), (1, (.grow (st.repos.map Av) 41 4)), (2, (.grow (st.all.map Am) 97 13)), (3, (.mm (Au st.all) none 3 1)), (4, (.row [(.str []), (.str []), (.str []), (.str []), .nils, .nils, .nils, .nils, .nils, .nils, .nils, .nils] 38))], 5⟩ ?_ (fun m1_23 => ?_)
  ·refine Bp 5 15 (by kernel_rfl) ?_ ?_
   ·refine Bm (fuel := 8) 5 rfl ?_
    refine Et (b := 2) (i := i) (es := st.all.map Am) (e := 97) (sz := 13) (k := .i64) (s' := [(4, (.ptr 4 0)), (27, (.own 2)), (28, (.int .i64 ((i : Int)))), (38, (.op 2 (i * 13))), (29, (.op 2 (i * 13)))]) (by kernel_rfl) (by kernel_rfl) (by kernel_rfl) (by kernel_rfl) (by kernel_rfl) (by kernel_rfl) (by omega) (by kernel_rfl) ?_
    refine Be ⟨rfl, ?_⟩
    refine An [4, 29, 38] ?_
    exact A1 m1_20
   ·refine Bm (fuel := 8) 15 rfl ?_
    refine E2 (b := 2) (o := i * 13) (off := 12) (s' := [(4, (.ptr 4 0)), (27, (.own 2)), (28, (.int .i64 ((i : Int)))), (38, (.op 2 (i * 13))), (39, (.op 2 (i * 13 + 12)))]) (by kernel_rfl) (by kernel_rfl) (by kernel_rfl) (by kernel_rfl) ?_
    refine Be ⟨rfl, ?_⟩
    refine An [4, 27, 28, 39] ?_
    exact A1 m1_21
  refine Bn true 10 (lsD 20 [0, 1, 2, 3, 4, 9, 10, 11, 12, 13]) ⟨[(4, (.ptr 4 0)), (27, (.own 2)), (28, (.int .i64 ((i : Int)))), (36, (.own 2)), (37, (.int .i64 ((i : Int))))], [(0, (.row [(.int .i64 st.kind), (.own 1), (.own 2), (.map 3)] 92)), (1, (.grow (st.repos.map Av) 41 4)), (2, (.grow (st.all.map Am) 97 13)), (3, (.mm (Au st.all) none 3 1)), (4, (.row [(.str []), (.str []), (.str []), (.str []), .nils, .nils, .nils, .nils, .nils, .nils, .nils, .nils] 38))], 5⟩ ?_ (fun m1_24 => ?_)
  ·refine Bp 5 14 (by kernel_rfl) ?_ ?_
   ·refine Bm (fuel := 9) 5 rfl ?_
    refine Et (b := 2) (i := i) (es := st.all.map Am) (e := 97) (sz := 13) (k := .i64) (s' := [(4, (.ptr 4 0)), (27, (.own 2)), (28, (.int .i64 ((i : Int)))), (36, (.own 2)), (37, (.int .i64 ((i : Int)))), (29, (.op 2 (i * 13)))]) (by kernel_rfl) (by kernel_rfl) (by kernel_rfl) (by kernel_rfl) (by kernel_rfl) (by kernel_rfl) (by omega) (by kernel_rfl) ?_
    refine Be ⟨rfl, ?_⟩
    refine An [4, 29, 36, 37] ?_
    exact A1 m1_22
   ·refine Bm (fuel := 9) 14 rfl ?_
    refine Et (b := 2) (i := i) (es := st.all.map Am) (e := 97) (sz := 13) (k := .i64) (s' := [(4, (.ptr 4 0)), (27, (.own 2)), (28, (.int .i64 ((i : Int)))), (36, (.own 2)), (37, (.int .i64 ((i : Int)))), (38, (.op 2 (i * 13)))]) (by kernel_rfl) (by kernel_rfl) (by kernel_rfl) (by kernel_rfl) (by kernel_rfl) (by kernel_rfl) (by omega) (by kernel_rfl) ?_
    refine Be ⟨rfl, ?_⟩
    refine An [4, 27, 28, 38] ?_
    exact A1 m1_23
  refine Cp (fuel := 12) [] [0, 1, 2, 4, 9, 10, 11, 13] [4, 26, 28, 35, 37] Aw ?_
  refine Bp 3 12 (by kernel_rfl) ?_ ?_
  ·refine Bb (fuel := 11) 3 [] Aw ?_
   refine An [4, 27, 28, 35, 37] ?_
   refine Bp 5 12 (by kernel_rfl) ?_ ?_
   ·refine Bm (fuel := 10) 5 rfl ?_
    refine Et (b := 2) (i := i) (es := st.all.map Am) (e := 97) (sz := 13) (k := .i64) (s' := [(4, (.ptr 4 0)), (27, (.own 2)), (28, (.int .i64 ((i : Int)))), (35, (.ptr 0 2)), (37, (.int .i64 ((i : Int)))), (29, (.op 2 (i * 13)))]) (by kernel_rfl) (by kernel_rfl) (by kernel_rfl) (by kernel_rfl) (by kernel_rfl) (by kernel_rfl) (by omega) (by kernel_rfl) ?_
    refine Be ⟨rfl, ?_⟩
    refine An [4, 29, 35, 37] ?_
    refine Bp 6 12 (by kernel_rfl) ?_ ?_
    ·refine Bm (fuel := 9) 6 rfl ?_
     refine E2 (b := 2) (o := i * 13) (off := 0) (s' := [(4, (.ptr 4 0)), (29, (.op 2 (i * 13))), (35, (.ptr 0 2)), (37, (.int .i64 ((i : Int)))), (30, (.op 2 (i * 13 + 0)))]) (by kernel_rfl) (by kernel_rfl) (by kernel_rfl) (by kernel_rfl) ?_
     refine Be ⟨rfl, ?_⟩
     refine An [4, 30, 35, 37] ?_
     refine Bp 7 12 (by kernel_rfl) ?_ ?_
     ·refine Bm (fuel := 8) 7 rfl ?_
      refine E1 (b := 2) (e := 97) (sz := 13) (es := st.all.map Am) (o := i * 13 + 0) (i := i) (j := 0) (a := (Am (nth st.all i))) (r := (Ak ((nth st.all i).1))) (s' := [(4, (.ptr 4 0)), (30, (.op 2 (i * 13 + 0))), (35, (.ptr 0 2)), (37, (.int .i64 ((i : Int)))), (31, (Ak ((nth st.all i).1)))]) (by kernel_rfl) (by kernel_rfl) rfl (by kernel_rfl) (Eo (l := st.all) Am (by omega)) (by kernel_rfl) (by kernel_rfl) ?_
      refine Be ⟨rfl, ?_⟩
      refine An [4, 31, 35, 37] ?_
      refine Bp 8 12 (by kernel_rfl) ?_ ?_
      ·refine M6 (s' := [(4, (.ptr 4 0)), (31, (Ak ((nth st.all i).1))), (35, (.ptr 0 2)), (37, (.int .i64 ((i : Int)))), (32, (Ak ((nth st.all i).1)))]) (fuel := 7) 8 (al := [(Ak ((nth st.all i).1))]) (r := (Ak ((nth st.all i).1))) rfl (by kernel_rfl) (by exact Jw) (by kernel_rfl) (by kernel_rfl) (J0 (nth st.all i).1 (by have := (nth st.all i).1.sizes; omega) (by have := (nth st.all i).1.sizes; have := Fb (nth st.all i).1.files; omega)) (by kernel_rfl) ?_
       refine An [4, 32, 35, 37] ?_
       refine Bp 12 17 (by kernel_rfl) ?_ ?_
       ·refine Bb (fuel := 6) 12 [] Aw ?_
        refine An [4, 32, 36, 37] ?_
        exact A1 m1_11
       ·refine Bb (fuel := 6) 17 [] Aw ?_
        refine An [4, 35, 37] ?_
        refine Cs (fuel := 5) 12 [] Aw ?_
        refine An [4, 36, 37] ?_
        exact A1 m1_8
      ·refine Bb (fuel := 7) 12 [] Aw ?_
       refine An [4, 31, 36, 37] ?_
       exact A1 m1_15
     ·refine Bb (fuel := 8) 12 [] Aw ?_
      refine An [4, 30, 36, 37] ?_
      exact A1 m1_19
    ·refine Bb (fuel := 9) 12 [] Aw ?_
     refine An [4, 29, 36, 37] ?_
     exact A1 m1_22
   ·refine Bb (fuel := 10) 12 [] Aw ?_
    refine An [4, 27, 28, 36, 37] ?_
    exact A1 m1_24
  ·refine Bb (fuel := 11) 12 [] Aw ?_
   refine An [4, 26, 28, 36, 37] ?_
   refine Bp 3 14 (by kernel_rfl) ?_ ?_
   ·refine Bb (fuel := 10) 3 [] Aw ?_
    refine An [4, 27, 28, 36, 37] ?_
    exact A1 m1_24
   ·refine Bm (fuel := 10) 14 rfl ?_
    refine Et (b := 2) (i := i) (es := st.all.map Am) (e := 97) (sz := 13) (k := .i64) (s' := [(4, (.ptr 4 0)), (26, (.ptr 0 2)), (28, (.int .i64 ((i : Int)))), (36, (.own 2)), (37, (.int .i64 ((i : Int)))), (38, (.op 2 (i * 13)))]) (by kernel_rfl) (by kernel_rfl) (by kernel_rfl) (by kernel_rfl) (by kernel_rfl) (by kernel_rfl) (by omega) (by kernel_rfl) ?_
    refine Be ⟨rfl, ?_⟩
    refine An [4, 26, 28, 38] ?_
    refine Bp 3 15 (by kernel_rfl) ?_ ?_
    ·refine Bb (fuel := 9) 3 [] Aw ?_
     refine An [4, 27, 28, 38] ?_
     exact A1 m1_23
    ·refine Bm (fuel := 9) 15 rfl ?_
     refine E2 (b := 2) (o := i * 13) (off := 12) (s' := [(4, (.ptr 4 0)), (26, (.ptr 0 2)), (28, (.int .i64 ((i : Int)))), (38, (.op 2 (i * 13))), (39, (.op 2 (i * 13 + 12)))]) (by kernel_rfl) (by kernel_rfl) (by kernel_rfl) (by kernel_rfl) ?_
     refine Be ⟨rfl, ?_⟩
     refine An [4, 26, 28, 39] ?_
     refine Bp 3 16 (by kernel_rfl) ?_ ?_
     ·refine Bb (fuel := 8) 3 [] Aw ?_
      refine An [4, 27, 28, 39] ?_
      exact A1 m1_21
     ·refine Bm (fuel := 8) 16 rfl ?_
      refine E1 (b := 2) (e := 97) (sz := 13) (es := st.all.map Am) (o := i * 13 + 12) (i := i) (j := 12) (a := (Am (nth st.all i))) (r := (.int .i64 ((nth st.all i).2))) (s' := [(4, (.ptr 4 0)), (26, (.ptr 0 2)), (28, (.int .i64 ((i : Int)))), (39, (.op 2 (i * 13 + 12))), (40, (.int .i64 ((nth st.all i).2)))]) (by kernel_rfl) (by kernel_rfl) rfl (by kernel_rfl) (Eo (l := st.all) Am (by omega)) (by kernel_rfl) (by kernel_rfl) ?_
      refine Be ⟨rfl, ?_⟩
      refine An [4, 26, 28, 40] ?_
      refine Cs (fuel := 7) 3 [] Aw ?_
      refine An [4, 27, 28, 40] ?_
      exact A1 m1_18
theorem X3a (st : PoolT) :
  Dj Tryz.prog 42 [(.ptr 0 0)] [(0, (.row [(.int .i64 st.kind), (.own 1), (.own 2), (.map 3)] 92)), (1, (.grow (st.repos.map Av) 41 4)), (2, (.grow (st.all.map Am) 97 13)), (3, (.mm (Au st.all) none 3 1))] 4 (.int .i64 st.kind) [(0, (.row [(.int .i64 st.kind), (.own 1), (.own 2), (.map 3)] 92)), (1, (.grow (st.repos.map Av) 41 4)), (2, (.grow (st.all.map Am) 97 13)), (3, (.mm (Au st.all) none 3 1))] := by
 refine Fh [.tmp 2] Tryz.func42 rfl Tryz.ntmps42 rfl rfl (by kernel_rfl) (by kernel_rfl) (by kernel_rfl) (fun B F hF => ?_)
 refine Aa [] [0] ?_
 refine Ab ?_
 refine Aa [] [0, 4] ?_
 refine Db (by kernel_rfl) ?_
 refine Ai ?_
 refine Aa [] [2] ?_
 refine Ag ?_
 refine Dd (.inl rfl) (al := [(.int .i64 st.kind)]) (by kernel_rfl) ?_ ((by kernel_rfl : Cq 4 _ = some [(0, (.row [(.int .i64 st.kind), (.own 1), (.own 2), (.map 3)] 92)), (1, (.grow (st.repos.map Av) 41 4)), (2, (.grow (st.all.map Am) 97 13)), (3, (.mm (Au st.all) none 3 1))]).trans ?_)
 ·rfl
 ·rfl
theorem X26 (st : PoolT) :
  Dj Tryz.prog 43 [(.ptr 0 0)] [(0, (.row [(.int .i64 st.kind), (.own 1), (.own 2), (.map 3)] 92)), (1, (.grow (st.repos.map Av) 41 4)), (2, (.grow (st.all.map Am) 97 13)), (3, (.mm (Au st.all) none 3 1))] 4 (.int .i64 ((st.all.length : Int))) [(0, (.row [(.int .i64 st.kind), (.own 1), (.own 2), (.map 3)] 92)), (1, (.grow (st.repos.map Av) 41 4)), (2, (.grow (st.all.map Am) 97 13)), (3, (.mm (Au st.all) none 3 1))] := by
 have hml : (st.all.map Am).length = st.all.length := List.length_map _
 refine Fh [.tmp 2] Tryz.func43 rfl Tryz.ntmps43 rfl rfl (by kernel_rfl) (by kernel_rfl) (by kernel_rfl) (fun B F hF => ?_)
 refine Aa [] [0] ?_
 refine Ab ?_
 refine Aa [] [0, 4] ?_
 refine Db (by kernel_rfl) ?_
 refine Ai ?_
 refine Aa [] [2] ?_
 refine Ag ?_
 refine Dd (.inl rfl) (al := [(.int .i64 (((st.all.map Am).length : Int)))]) (by kernel_rfl) ?_ ((by kernel_rfl : Cq 4 _ = some [(0, (.row [(.int .i64 st.kind), (.own 1), (.own 2), (.map 3)] 92)), (1, (.grow (st.repos.map Av) 41 4)), (2, (.grow (st.all.map Am) 97 13)), (3, (.mm (Au st.all) none 3 1))]).trans ?_)
 ·rw [hml]; rfl
 ·rfl
theorem X24 (st : PoolT) (hal : st.all.length ≤ 200) (hs : ∀ i, i < st.all.length → (nth st.all i).1.size ≤ 4194304) :
  Dj Tryz.prog 10 [(.ptr 0 0)] [(0, (.row [(.int .i64 st.kind), (.own 1), (.own 2), (.map 3)] 92)), (1, (.grow (st.repos.map Av) 41 4)), (2, (.grow (st.all.map Am) 97 13)), (3, (.mm (Au st.all) none 3 1))] 4 (.fp (Cb st)) [(0, (.row [(.int .i64 st.kind), (.own 1), (.own 2), (.map 3)] 92)), (1, (.grow (st.repos.map Av) 41 4)), (2, (.grow (st.all.map Am) 97 13)), (3, (.mm (Au st.all) none 3 1))] := by
 refine Fh [.tmp 2] Tryz.func10 rfl Tryz.ntmps10 rfl rfl (by kernel_rfl) (by kernel_rfl) (by kernel_rfl) (fun B F hF => ?_)
 refine Aa [] [0] ?_
 refine Ab ?_
 refine Aa [] [0, 14] ?_
 refine Db (by kernel_rfl) ?_
 refine Ai ?_
 refine Ab ?_
 refine Ar ?_
 refine Bj 1 0 [] [0, 15] [] hk0 v0 c0 ?_
 refine C3 [0, 1, 2, 3] (al := [(.ptr 0 0)]) (al' := [(.ptr 0 0)]) (r := (.int .i64 st.kind)) (r' := (.int .i64 st.kind)) (s' := [(0, (.ptr 0 0)), (15, (.ptr 0 0)), (16, (.int .i64 st.kind))]) (H := [(0, (.row [(.int .i64 st.kind), (.own 1), (.own 2), (.map 3)] 92)), (1, (.grow (st.repos.map Av) 41 4)), (2, (.grow (st.all.map Am) 97 13)), (3, (.mm (Au st.all) none 3 1))]) (H' := [(0, (.row [(.int .i64 st.kind), (.own 1), (.own 2), (.map 3)] 92)), (1, (.grow (st.repos.map Av) 41 4)), (2, (.grow (st.all.map Am) 97 13)), (3, (.mm (Au st.all) none 3 1))]) (h2 := [(0, (.row [(.int .i64 st.kind), (.own 1), (.own 2), (.map 3)] 92)), (1, (.grow (st.repos.map Av) 41 4)), (2, (.grow (st.all.map Am) 97 13)), (3, (.mm (Au st.all) none 3 1))]) (by kernel_rfl) (by exact Yw) (by kernel_rfl) (by kernel_rfl) (by kernel_rfl) (by kernel_rfl) (by kernel_rfl) (X3a st) (by kernel_rfl) (by kernel_rfl) (by kernel_rfl) ?_
 refine Bj 1 2 [] [0, 16, 17] [] hk0 v0 c0 ?_
 refine C3 [0, 1, 2, 3] (al := [(.ptr 0 0)]) (al' := [(.ptr 0 0)]) (r := (.int .i64 ((st.all.length : Int)))) (r' := (.int .i64 ((st.all.length : Int)))) (s' := [(0, (.ptr 0 0)), (16, (.int .i64 st.kind)), (17, (.ptr 0 0)), (18, (.int .i64 ((st.all.length : Int))))]) (H := [(0, (.row [(.int .i64 st.kind), (.own 1), (.own 2), (.map 3)] 92)), (1, (.grow (st.repos.map Av) 41 4)), (2, (.grow (st.all.map Am) 97 13)), (3, (.mm (Au st.all) none 3 1))]) (H' := [(0, (.row [(.int .i64 st.kind), (.own 1), (.own 2), (.map 3)] 92)), (1, (.grow (st.repos.map Av) 41 4)), (2, (.grow (st.all.map Am) 97 13)), (3, (.mm (Au st.all) none 3 1))]) (h2 := [(0, (.row [(.int .i64 st.kind), (.own 1), (.own 2), (.map 3)] 92)), (1, (.grow (st.repos.map Av) 41 4)), (2, (.grow (st.all.map Am) 97 13)), (3, (.mm (Au st.all) none 3 1))]) (by kernel_rfl) (by exact Yv) (by kernel_rfl) (by kernel_rfl) (by kernel_rfl) (by kernel_rfl) (by kernel_rfl) (X26 st) (by kernel_rfl) (by kernel_rfl) (by kernel_rfl) ?_
 refine A2 4 [] [0, 3] [] hk0 v0 c0 ?_
 refine Ab ?_
 refine Aa [] [0, 3, 25, 26] ?_
 refine A3 ?_
 refine Pm 4 84 4 (y := ⟨[(0, (.ptr 0 0)), (3, (.ptr 6 0)), (25, (.int .i64 ((st.all.length : Int)))), (26, (.int .i64 0))], [(0, (.row [(.int .i64 st.kind), (.own 1), (.own 2), (.map 3)] 92)), (1, (.grow (st.repos.map Av) 41 4)), (2, (.grow (st.all.map Am) 97 13)), (3, (.mm (Au st.all) none 3 1)), (4, (.mm (fun _ => []) none 84 4)), (5, (.row [(.int .i64 st.kind), (.int .i64 ((st.all.length : Int))), (.map 4)] 80)), (6, (.row [(.ptr 5 0)] 32))], 7⟩) (by kernel_rfl) ?_
 refine Bs (fun g y => ∃ (i : Nat), i ≤ st.all.length ∧ y = ⟨[(0, (.ptr 0 0)), (3, (.ptr 6 0)), (25, (.int .i64 ((st.all.length : Int)))), (26, (.int .i64 ((i : Int))))], [(0, (.row [(.int .i64 st.kind), (.own 1), (.own 2), (.map 3)] 92)), (1, (.grow (st.repos.map Av) 41 4)), (2, (.grow (st.all.map Am) 97 13)), (3, (.mm (Au st.all) none 3 1)), (4, (.mm (A6 (Bc st.all i)) none 84 4)), (5, (.row [(.int .i64 st.kind), (.int .i64 ((st.all.length : Int))), (.map 4)] 80)), (6, (.row [(.ptr 5 0)] 32))], 7⟩ ∧ g = st.all.length - i) [0, 3, 25, 26] 7 _ (by omega) ⟨0, (by omega), (by kernel_rfl), rfl⟩ ?_
 rintro g1 y1 ⟨i, f1_1, rfl, rfl⟩
 refine Aa [] [0, 3, 25, 26, 27] ?_
 refine Ab ?_
 refine A8 (p := (i : Int) < (st.all.length : Int)) (by kernel_rfl) (fun c1 => ?_) (fun c1 => ?_)
 ·have hpl := Qp (l := st.all) hs i (by omega)
  have hsz := (nth st.all i).1.sizes
  have hsi := hs i (by omega)
  have hpv : (nth st.all i).1.provides.length ≤ 4194304 := by have := Ds (nth st.all i).1.provides; unfold PkgT.depSize at hsz; omega
  have hfl : (nth st.all i).1.files.length ≤ 4194304 := by have := Fb (nth st.all i).1.files; omega
  refine Ai ?_
  refine Ab ?_
  refine A3 ?_
  refine Aa [] [0, 3, 4, 25, 26] ?_
  refine Ab ?_
  refine Ar ?_
  refine Bj 2 0 [] [0, 3, 4, 25, 26, 30, 31] [] hk0 v0 c0 ?_
  refine C3 [0, 1, 2, 3] (al := [(.ptr 0 0), (.int .i64 ((i : Int)))]) (al' := [(.ptr 0 0), (.int .i64 ((i : Int)))]) (r := (.tup [(Ak ((nth st.all i).1)), (.int .i64 ((nth st.all i).2)), (.int .i64 0)])) (r' := (.tup [(Ak ((nth st.all i).1)), (.int .i64 ((nth st.all i).2)), (.int .i64 0)])) (s' := [(0, (.ptr 0 0)), (3, (.ptr 6 0)), (4, (.int .i64 ((i : Int)))), (25, (.int .i64 ((st.all.length : Int)))), (26, (.int .i64 ((i : Int)))), (30, (.ptr 0 0)), (31, (.int .i64 ((i : Int)))), (32, (.tup [(Ak ((nth st.all i).1)), (.int .i64 ((nth st.all i).2)), (.int .i64 0)]))]) (H := [(0, (.row [(.int .i64 st.kind), (.own 1), (.own 2), (.map 3)] 92)), (1, (.grow (st.repos.map Av) 41 4)), (2, (.grow (st.all.map Am) 97 13)), (3, (.mm (Au st.all) none 3 1))]) (H' := [(0, (.row [(.int .i64 st.kind), (.own 1), (.own 2), (.map 3)] 92)), (1, (.grow (st.repos.map Av) 41 4)), (2, (.grow (st.all.map Am) 97 13)), (3, (.mm (Au st.all) none 3 1))]) (h2 := [(0, (.row [(.int .i64 st.kind), (.own 1), (.own 2), (.map 3)] 92)), (1, (.grow (st.repos.map Av) 41 4)), (2, (.grow (st.all.map Am) 97 13)), (3, (.mm (Au st.all) none 3 1)), (4, (.mm (A6 (Bc st.all i)) none 84 4)), (5, (.row [(.int .i64 st.kind), (.int .i64 ((st.all.length : Int))), (.map 4)] 80)), (6, (.row [(.ptr 5 0)] 32))]) (by kernel_rfl) (by exact Yu) (by kernel_rfl) (by kernel_rfl) (by kernel_rfl) (by kernel_rfl) (by kernel_rfl) (X21 st i (by omega) (hs i (by omega))) (by kernel_rfl) (by kernel_rfl) (by kernel_rfl) ?_
  refine A2 3 [] [0, 3, 4, 5, 25, 26] [(9, 5)] hk0 v0 c0 ?_
  refine Aa [] [0, 3, 4, 5, 8, 25, 26] ?_
  refine Ab ?_
  refine Ar ?_
  refine Bj 7 0 [] [0, 3, 4, 5, 8, 25, 26, 37, 39, 43] [] hk0 v0 c0 ?_
  refine J9 [6, 5, 4] (f := 45) (cap := [(.ptr 6 0)]) (al := [(.str (((nth st.all i).1).name)), (.agg [(.int .i64 ((i : Int))), (.bool true), (.int .i64 2), (.str (((nth st.all i).1).evr))])]) (al' := [(.str (((nth st.all i).1).name)), (.agg [(.int .i64 ((i : Int))), (.bool true), (.int .i64 2), (.str (((nth st.all i).1).evr))]), (.ptr 0 0)]) (r := (.tup [])) (r' := (.tup [])) (s' := [(0, (.ptr 0 0)), (3, (.ptr 6 0)), (4, (.int .i64 ((i : Int)))), (5, (.fp (Ak ((nth st.all i).1)))), (8, (.fn 45 [] [(.ptr 6 0)])), (25, (.int .i64 ((st.all.length : Int)))), (26, (.int .i64 ((i : Int)))), (37, (.fn 45 [] [(.ptr 6 0)])), (39, (.str (((nth st.all i).1).name))), (43, (.agg [(.int .i64 ((i : Int))), (.bool true), (.int .i64 2), (.str (((nth st.all i).1).evr))])), (44, (.tup []))]) (H := [(0, (.row [(.ptr 1 0)] 32)), (1, (.row [(.int .i64 st.kind), (.int .i64 ((st.all.length : Int))), (.map 2)] 80)), (2, (.mm (A6 (Bc st.all i)) none 84 4))]) (H' := [(0, (.row [(.ptr 1 0)] 32)), (1, (.row [(.int .i64 st.kind), (.int .i64 ((st.all.length : Int))), (.map 2)] 80)), (2, (.mm (A6 (Bc st.all i ++ [((nth st.all i).1.name, (⟨(i : Int), true, 2, (nth st.all i).1.evr⟩ : OfferT))])) none 84 4))]) (h2 := [(0, (.row [(.int .i64 st.kind), (.own 1), (.own 2), (.map 3)] 92)), (1, (.grow (st.repos.map Av) 41 4)), (2, (.grow (st.all.map Am) 97 13)), (3, (.mm (Au st.all) none 3 1)), (4, (.mm (A6 (Bc st.all i ++ [((nth st.all i).1.name, (⟨(i : Int), true, 2, (nth st.all i).1.evr⟩ : OfferT))])) none 84 4)), (5, (.row [(.int .i64 st.kind), (.int .i64 ((st.all.length : Int))), (.map 4)] 80)), (6, (.row [(.ptr 5 0)] 32))]) (by kernel_rfl) (by kernel_rfl) (by exact Lc) (by kernel_rfl) (by kernel_rfl) (by kernel_rfl) (by kernel_rfl) (by kernel_rfl) (Kq st.kind (st.all.length : Int) (Bc st.all i) ((nth st.all i).1.name) ⟨(i : Int), true, 2, (nth st.all i).1.evr⟩ (Nat.le_trans (Ji _ _) (by first | (simp only [List.length_append]; have := Jd (i := i) (p := (nth st.all i).1) (j := 0); have := Jc (i := i) (p := (nth st.all i).1) (j := 0); omega) | omega))) (by kernel_rfl) (by kernel_rfl) (by kernel_rfl) ?_
  refine Be ?_
  refine Ab ?_
  refine Aa [] [0, 3, 4, 5, 8, 25, 26, 46, 47, 48] ?_
  refine A3 ?_
  refine Bs (fun g y => ∃ (j : Nat), j ≤ (nth st.all i).1.provides.length ∧ y = ⟨[(0, (.ptr 0 0)), (3, (.ptr 6 0)), (4, (.int .i64 ((i : Int)))), (5, (.fp (Ak ((nth st.all i).1)))), (8, (.fn 45 [] [(.ptr 6 0)])), (25, (.int .i64 ((st.all.length : Int)))), (26, (.int .i64 ((i : Int)))), (46, (Ah 5 Az (((nth st.all i).1).provides))), (47, (.int .i64 (((((nth st.all i).1).provides).length : Int)))), (48, (.int .i64 ((j : Int))))], [(0, (.row [(.int .i64 st.kind), (.own 1), (.own 2), (.map 3)] 92)), (1, (.grow (st.repos.map Av) 41 4)), (2, (.grow (st.all.map Am) 97 13)), (3, (.mm (Au st.all) none 3 1)), (4, (.mm (A6 (Bc st.all i ++ Cz i (nth st.all i).1 j)) none 84 4)), (5, (.row [(.int .i64 st.kind), (.int .i64 ((st.all.length : Int))), (.map 4)] 80)), (6, (.row [(.ptr 5 0)] 32))], 8⟩ ∧ g = (nth st.all i).1.provides.length - j) [0, 3, 4, 5, 8, 25, 26, 46, 47, 48] 8 _ (by omega) ⟨0, (by omega), (by kernel_rfl), rfl⟩ ?_
  rintro g2 y2 ⟨j, f2_1, rfl, rfl⟩
  refine Aa [] [0, 3, 4, 5, 8, 25, 26, 46, 47, 48, 49] ?_
  refine Ab ?_
  refine A8 (p := (j : Int) < ((((nth st.all i).1).provides).length : Int)) (by kernel_rfl) (fun c2 => ?_) (fun c2 => ?_)
  ·refine Ai ?_
   refine Ab ?_
   refine A3 ?_
   refine Ae [] [0, 3, 4, 5, 8, 10, 25, 26, 46, 47, 48] [] hk0 v0 (cc 0 (p := (0 ≤ (j : Int) ∧ j < (((nth st.all i).1).provides).length)) (by first | omega | (simp; omega) | (simp; done) | (intros; simp_all; omega) | (intros; simp_all; done)) <| c0) ?_
   refine Ar ?_
   refine Bj 9 0 [] [0, 3, 4, 5, 8, 25, 26, 46, 47, 48, 52, 54, 60] [(0, 10)] hk0 v0 c0 ?_
   refine J9 [6, 5, 4] (f := 45) (cap := [(.ptr 6 0)]) (al := [(.str ((nth (((nth st.all i).1).provides) j).name)), (.agg [(.int .i64 ((i : Int))), (.bool false), (.int .i64 ((nth (((nth st.all i).1).provides) j).op)), (.str ((nth (((nth st.all i).1).provides) j).evr))])]) (al' := [(.str ((nth (((nth st.all i).1).provides) j).name)), (.agg [(.int .i64 ((i : Int))), (.bool false), (.int .i64 ((nth (((nth st.all i).1).provides) j).op)), (.str ((nth (((nth st.all i).1).provides) j).evr))]), (.ptr 0 0)]) (r := (.tup [])) (r' := (.tup [])) (s' := [(0, (.ptr 0 0)), (3, (.ptr 6 0)), (4, (.int .i64 ((i : Int)))), (5, (.fp (Ak ((nth st.all i).1)))), (8, (.fn 45 [] [(.ptr 6 0)])), (25, (.int .i64 ((st.all.length : Int)))), (26, (.int .i64 ((i : Int)))), (46, (Ah 5 Az (((nth st.all i).1).provides))), (47, (.int .i64 (((((nth st.all i).1).provides).length : Int)))), (48, (.int .i64 ((j : Int)))), (52, (.fn 45 [] [(.ptr 6 0)])), (54, (.str ((nth (((nth st.all i).1).provides) j).name))), (60, (.agg [(.int .i64 ((i : Int))), (.bool false), (.int .i64 ((nth (((nth st.all i).1).provides) j).op)), (.str ((nth (((nth st.all i).1).provides) j).evr))])), (61, (.tup []))]) (H := [(0, (.row [(.ptr 1 0)] 32)), (1, (.row [(.int .i64 st.kind), (.int .i64 ((st.all.length : Int))), (.map 2)] 80)), (2, (.mm (A6 (Bc st.all i ++ Cz i (nth st.all i).1 j)) none 84 4))]) (H' := [(0, (.row [(.ptr 1 0)] 32)), (1, (.row [(.int .i64 st.kind), (.int .i64 ((st.all.length : Int))), (.map 2)] 80)), (2, (.mm (A6 (Bc st.all i ++ Cz i (nth st.all i).1 j ++ [((nth (nth st.all i).1.provides j).name, (⟨(i : Int), false, (nth (nth st.all i).1.provides j).op, (nth (nth st.all i).1.provides j).evr⟩ : OfferT))])) none 84 4))]) (h2 := [(0, (.row [(.int .i64 st.kind), (.own 1), (.own 2), (.map 3)] 92)), (1, (.grow (st.repos.map Av) 41 4)), (2, (.grow (st.all.map Am) 97 13)), (3, (.mm (Au st.all) none 3 1)), (4, (.mm (A6 (Bc st.all i ++ Cz i (nth st.all i).1 j ++ [((nth (nth st.all i).1.provides j).name, (⟨(i : Int), false, (nth (nth st.all i).1.provides j).op, (nth (nth st.all i).1.provides j).evr⟩ : OfferT))])) none 84 4)), (5, (.row [(.int .i64 st.kind), (.int .i64 ((st.all.length : Int))), (.map 4)] 80)), (6, (.row [(.ptr 5 0)] 32))]) (by kernel_rfl) (by kernel_rfl) (by exact Lc) (by kernel_rfl) (by kernel_rfl) (by kernel_rfl) (by kernel_rfl) (by kernel_rfl) (Kq st.kind (st.all.length : Int) (Bc st.all i ++ Cz i (nth st.all i).1 j) ((nth (nth st.all i).1.provides j).name) ⟨(i : Int), false, (nth (nth st.all i).1.provides j).op, (nth (nth st.all i).1.provides j).evr⟩ (Nat.le_trans (Ji _ _) (by first | (simp only [List.length_append]; have := Jd (i := i) (p := (nth st.all i).1) (j := j); have := Jc (i := i) (p := (nth st.all i).1) (j := j); omega) | omega))) (by kernel_rfl) (by kernel_rfl) (by kernel_rfl) ?_
   refine Be ?_
   refine Ar ?_
   refine A2 0 [] [0, 3, 4, 5, 8, 25, 26, 46, 47, 48] [] hk0 v0 (cc 0 (p := (-9223372036854775808 ≤ (j : Int) + 1 ∧ (j : Int) + 1 ≤ 9223372036854775807)) (by first | omega | (simp; omega) | (simp; done) | (intros; simp_all; omega) | (intros; simp_all; done)) <| c0) ?_
   refine ⟨by kernel_rfl, _, ?_, j + 1, ?_, (Eq.trans (b := (⟨[(0, (.ptr 0 0)), (3, (.ptr 6 0)), (4, (.int .i64 ((i : Int)))), (5, (.fp (Ak ((nth st.all i).1)))), (8, (.fn 45 [] [(.ptr 6 0)])), (25, (.int .i64 ((st.all.length : Int)))), (26, (.int .i64 ((i : Int)))), (46, (Ah 5 Az (((nth st.all i).1).provides))), (47, (.int .i64 (((((nth st.all i).1).provides).length : Int)))), (48, (.int .i64 ((j : Int) + 1)))], [(0, (.row [(.int .i64 st.kind), (.own 1), (.own 2), (.map 3)] 92)), (1, (.grow (st.repos.map Av) 41 4)), (2, (.grow (st.all.map Am) 97 13)), (3, (.mm (Au st.all) none 3 1)), (4, (.mm (A6 (Bc st.all i ++ Cz i (nth st.all i).1 j ++ [((nth (nth st.all i).1.provides j).name, (⟨(i : Int), false, (nth (nth st.all i).1.provides j).op, (nth (nth st.all i).1.provides j).evr⟩ : OfferT))])) none 84 4)), (5, (.row [(.int .i64 st.kind), (.int .i64 ((st.all.length : Int))), (.map 4)] 80)), (6, (.row [(.ptr 5 0)] 32))], 8⟩ : St)) (by kernel_rfl) (by rw [Vb (by omega), ← List.append_assoc] <;> kernel_rfl)), rfl⟩
   ·omega
   ·omega
  ·refine Bl ?_
   refine Aa [] [0, 3, 4, 8, 25, 26, 64, 65, 66] ?_
   refine A3 ?_
   refine Bs (fun g y => ∃ (j : Nat), j ≤ (nth st.all i).1.files.length ∧ y = ⟨[(0, (.ptr 0 0)), (3, (.ptr 6 0)), (4, (.int .i64 ((i : Int)))), (8, (.fn 45 [] [(.ptr 6 0)])), (25, (.int .i64 ((st.all.length : Int)))), (26, (.int .i64 ((i : Int)))), (64, (Ch (((nth st.all i).1).files))), (65, (.int .i64 (((((nth st.all i).1).files).length : Int)))), (66, (.int .i64 ((j : Int))))], [(0, (.row [(.int .i64 st.kind), (.own 1), (.own 2), (.map 3)] 92)), (1, (.grow (st.repos.map Av) 41 4)), (2, (.grow (st.all.map Am) 97 13)), (3, (.mm (Au st.all) none 3 1)), (4, (.mm (A6 (Bc st.all i ++ Cl i (nth st.all i).1 j)) none 84 4)), (5, (.row [(.int .i64 st.kind), (.int .i64 ((st.all.length : Int))), (.map 4)] 80)), (6, (.row [(.ptr 5 0)] 32))], 8⟩ ∧ g = (nth st.all i).1.files.length - j) [0, 3, 4, 8, 25, 26, 64, 65, 66] 8 _ (by omega) ⟨0, (by omega), (Eq.trans (b := (⟨[(0, (.ptr 0 0)), (3, (.ptr 6 0)), (4, (.int .i64 ((i : Int)))), (8, (.fn 45 [] [(.ptr 6 0)])), (25, (.int .i64 ((st.all.length : Int)))), (26, (.int .i64 ((i : Int)))), (64, (Ch (((nth st.all i).1).files))), (65, (.int .i64 (((((nth st.all i).1).files).length : Int)))), (66, (.int .i64 0))], [(0, (.row [(.int .i64 st.kind), (.own 1), (.own 2), (.map 3)] 92)), (1, (.grow (st.repos.map Av) 41 4)), (2, (.grow (st.all.map Am) 97 13)), (3, (.mm (Au st.all) none 3 1)), (4, (.mm (A6 (Bc st.all i ++ Cz i (nth st.all i).1 j)) none 84 4)), (5, (.row [(.int .i64 st.kind), (.int .i64 ((st.all.length : Int))), (.map 4)] 80)), (6, (.row [(.ptr 5 0)] 32))], 8⟩ : St)) (by kernel_rfl) (by rw [show Cl i (nth st.all i).1 0 = Cz i (nth st.all i).1 (nth st.all i).1.provides.length from by simp [Cl], show (nth st.all i).1.provides.length = j from by omega] <;> kernel_rfl)), rfl⟩ ?_
   rintro g3 y3 ⟨j, f3_1, rfl, rfl⟩
   refine Aa [] [0, 3, 4, 8, 25, 26, 64, 65, 66, 67] ?_
   refine Ab ?_
   refine A8 (p := (j : Int) < ((((nth st.all i).1).files).length : Int)) (by kernel_rfl) (fun c3 => ?_) (fun c3 => ?_)
   ·refine Ai ?_
    refine Ab ?_
    refine A3 ?_
    refine Ae [] [0, 3, 4, 8, 12, 25, 26, 64, 65, 66] [] hk0 v0 (cc 0 (p := (0 ≤ (j : Int) ∧ j < (((nth st.all i).1).files).length)) (by first | omega | (simp; omega) | (simp; done) | (intros; simp_all; omega) | (intros; simp_all; done)) <| c0) ?_
    refine Ar ?_
    refine Bj 4 0 [] [0, 3, 4, 8, 25, 26, 64, 65, 66, 70, 71, 73] [] hk0 v0 c0 ?_
    refine J9 [6, 5, 4] (f := 45) (cap := [(.ptr 6 0)]) (al := [(.str (nth (((nth st.all i).1).files) j)), (.agg [(.int .i64 ((i : Int))), (.bool false), (.int .i64 0), (.str [])])]) (al' := [(.str (nth (((nth st.all i).1).files) j)), (.agg [(.int .i64 ((i : Int))), (.bool false), (.int .i64 0), (.str [])]), (.ptr 0 0)]) (r := (.tup [])) (r' := (.tup [])) (s' := [(0, (.ptr 0 0)), (3, (.ptr 6 0)), (4, (.int .i64 ((i : Int)))), (8, (.fn 45 [] [(.ptr 6 0)])), (25, (.int .i64 ((st.all.length : Int)))), (26, (.int .i64 ((i : Int)))), (64, (Ch (((nth st.all i).1).files))), (65, (.int .i64 (((((nth st.all i).1).files).length : Int)))), (66, (.int .i64 ((j : Int)))), (70, (.fn 45 [] [(.ptr 6 0)])), (71, (.str (nth (((nth st.all i).1).files) j))), (73, (.agg [(.int .i64 ((i : Int))), (.bool false), (.int .i64 0), (.str [])])), (74, (.tup []))]) (H := [(0, (.row [(.ptr 1 0)] 32)), (1, (.row [(.int .i64 st.kind), (.int .i64 ((st.all.length : Int))), (.map 2)] 80)), (2, (.mm (A6 (Bc st.all i ++ Cl i (nth st.all i).1 j)) none 84 4))]) (H' := [(0, (.row [(.ptr 1 0)] 32)), (1, (.row [(.int .i64 st.kind), (.int .i64 ((st.all.length : Int))), (.map 2)] 80)), (2, (.mm (A6 (Bc st.all i ++ Cl i (nth st.all i).1 j ++ [(nth (nth st.all i).1.files j, (⟨(i : Int), false, 0, []⟩ : OfferT))])) none 84 4))]) (h2 := [(0, (.row [(.int .i64 st.kind), (.own 1), (.own 2), (.map 3)] 92)), (1, (.grow (st.repos.map Av) 41 4)), (2, (.grow (st.all.map Am) 97 13)), (3, (.mm (Au st.all) none 3 1)), (4, (.mm (A6 (Bc st.all i ++ Cl i (nth st.all i).1 j ++ [(nth (nth st.all i).1.files j, (⟨(i : Int), false, 0, []⟩ : OfferT))])) none 84 4)), (5, (.row [(.int .i64 st.kind), (.int .i64 ((st.all.length : Int))), (.map 4)] 80)), (6, (.row [(.ptr 5 0)] 32))]) (by kernel_rfl) (by kernel_rfl) (by exact Lc) (by kernel_rfl) (by kernel_rfl) (by kernel_rfl) (by kernel_rfl) (by kernel_rfl) (Kq st.kind (st.all.length : Int) (Bc st.all i ++ Cl i (nth st.all i).1 j) (nth (nth st.all i).1.files j) ⟨(i : Int), false, 0, []⟩ (Nat.le_trans (Ji _ _) (by first | (simp only [List.length_append]; have := Jd (i := i) (p := (nth st.all i).1) (j := j); have := Jc (i := i) (p := (nth st.all i).1) (j := j); omega) | omega))) (by kernel_rfl) (by kernel_rfl) (by kernel_rfl) ?_
    refine Be ?_
    refine Ar ?_
    refine A2 0 [] [0, 3, 4, 8, 25, 26, 64, 65, 66] [] hk0 v0 (cc 0 (p := (-9223372036854775808 ≤ (j : Int) + 1 ∧ (j : Int) + 1 ≤ 9223372036854775807)) (by first | omega | (simp; omega) | (simp; done) | (intros; simp_all; omega) | (intros; simp_all; done)) <| c0) ?_
    refine ⟨by kernel_rfl, _, ?_, j + 1, ?_, (Eq.trans (b := (⟨[(0, (.ptr 0 0)), (3, (.ptr 6 0)), (4, (.int .i64 ((i : Int)))), (8, (.fn 45 [] [(.ptr 6 0)])), (25, (.int .i64 ((st.all.length : Int)))), (26, (.int .i64 ((i : Int)))), (64, (Ch (((nth st.all i).1).files))), (65, (.int .i64 (((((nth st.all i).1).files).length : Int)))), (66, (.int .i64 ((j : Int) + 1)))], [(0, (.row [(.int .i64 st.kind), (.own 1), (.own 2), (.map 3)] 92)), (1, (.grow (st.repos.map Av) 41 4)), (2, (.grow (st.all.map Am) 97 13)), (3, (.mm (Au st.all) none 3 1)), (4, (.mm (A6 (Bc st.all i ++ Cl i (nth st.all i).1 j ++ [(nth (nth st.all i).1.files j, (⟨(i : Int), false, 0, []⟩ : OfferT))])) none 84 4)), (5, (.row [(.int .i64 st.kind), (.int .i64 ((st.all.length : Int))), (.map 4)] 80)), (6, (.row [(.ptr 5 0)] 32))], 8⟩ : St)) (by kernel_rfl) (by rw [Va (by omega), ← List.append_assoc] <;> kernel_rfl)), rfl⟩
    ·omega
    ·omega
   ·refine Bl ?_
    refine Ar ?_
    refine A2 0 [] [0, 3, 25, 26] [] hk0 v0 (cc 0 (p := (-9223372036854775808 ≤ (i : Int) + 1 ∧ (i : Int) + 1 ≤ 9223372036854775807)) (by first | omega | (simp; omega) | (simp; done) | (intros; simp_all; omega) | (intros; simp_all; done)) <| c0) ?_
    refine ⟨by kernel_rfl, _, ?_, i + 1, ?_, (Eq.trans (b := (⟨[(0, (.ptr 0 0)), (3, (.ptr 6 0)), (25, (.int .i64 ((st.all.length : Int)))), (26, (.int .i64 ((i : Int) + 1)))], [(0, (.row [(.int .i64 st.kind), (.own 1), (.own 2), (.map 3)] 92)), (1, (.grow (st.repos.map Av) 41 4)), (2, (.grow (st.all.map Am) 97 13)), (3, (.mm (Au st.all) none 3 1)), (4, (.mm (A6 (Bc st.all i ++ Cl i (nth st.all i).1 j)) none 84 4)), (5, (.row [(.int .i64 st.kind), (.int .i64 ((st.all.length : Int))), (.map 4)] 80)), (6, (.row [(.ptr 5 0)] 32))], 7⟩ : St)) (by kernel_rfl) (by rw [Nv, show D6 i (nth st.all i).1 = Cl i (nth st.all i).1 j from by unfold D6; rw [show (nth st.all i).1.files.length = j from by omega]] <;> kernel_rfl)), rfl⟩
    ·omega
    ·omega
 ·refine Bl ?_
  refine Ab ?_
  refine Ar ?_
  refine Gm 5 2 (y := ⟨[(0, (.ptr 0 0)), (3, (.ptr 6 0)), (25, (.int .i64 ((st.all.length : Int)))), (26, (.int .i64 ((i : Int)))), (27, (.bool (decide ((i : Int) < (st.all.length : Int)))))], [(0, (.row [(.int .i64 st.kind), (.own 1), (.own 2), (.map 3)] 92)), (1, (.grow (st.repos.map Av) 41 4)), (2, (.grow (st.all.map Am) 97 13)), (3, (.mm (Au st.all) none 3 1)), (5, (.row [(.int .i64 st.kind), (.int .i64 ((st.all.length : Int))), (.smap (.slice none 0 0) (fun kq => .row 4 ((A6 (Bc st.all i)) kq).length (fun ix => ((A6 (Bc st.all i)) kq).getD ix Bh)))] 80)), (6, (.row [(.ptr 5 0)] 32))], 7⟩) (by kernel_rfl) ?_
  refine A2 0 [] [2] [(1, 77)] hk0 v0 c0 ?_
  refine Ag ?_
  refine Dd (.inl rfl) (al := [(.fp (.agg [(.int .i64 st.kind), (.int .i64 ((st.all.length : Int))), (.smap (.slice none 0 0) (fun kq => .row 4 ((A6 (Bc st.all i)) kq).length (fun ix => ((A6 (Bc st.all i)) kq).getD ix Bh)))]))]) (by kernel_rfl) ?_ ((by kernel_rfl : Cq 4 _ = some [(0, (.row [(.int .i64 st.kind), (.own 1), (.own 2), (.map 3)] 92)), (1, (.grow (st.repos.map Av) 41 4)), (2, (.grow (st.all.map Am) 97 13)), (3, (.mm (Au st.all) none 3 1))]).trans ?_)
  ·rw [show i = st.all.length from by omega]; rfl
  ·rfl
end Sv
end Go.Proofs.YtlfjokcbkopfeaaGreatDoor
end
section
namespace Go.Proofs.YtlfjokcbkopfeaaGreatDoor
open Go Go.RowKit
namespace Sv
attribute [local irreducible] SW SO Bg
set_option maxHeartbeats 2000000
set_option maxRecDepth 100000
def ltP : PkgT := ⟨[97], [57], [110, 111, 97, 114, 99, 104], [], [], [], [], [], [], [], [], []⟩
def ltR : RepoT := ⟨[108, 97, 116, 101, 114], 0, false, [ltP]⟩
theorem Q5b {α : Type} [Inhabited α] {l : List α} {i j : Nat} (h : j < i) : nth (l.take i) j = nth l j := by unfold nth; rw [List.getElem?_take_of_lt h]
theorem Q54 : ∀ j, j < ltR.pkgs.length → (nth ltR.pkgs j).size ≤ 4194304 := fun j hj => by
 have : j = 0 := by simpa [ltR] using hj
 subst this
 decide
theorem provTells_ok (kind : Int) (l : List RepoT) (hll : l.length ≤ 1048576) (hl : ∀ i, i < l.length → (nth l i).size ≤ 1048576) (d : DepT) (hd : d.size ≤ 1048576) (s : List Int) (hs : s.length ≤ 1048576) :
  FnV Tryz.prog 3 [(.int .i64 kind), (Ah 4 A5 l), (.agg [(.int .i64 d.kind), (.str d.name), (.int .i64 d.op), (.str d.evr), (.row 5 d.args.length (depAt d.args))]), (Bu s)] (.bool true) := by
 have hl4 : ∀ i, i < l.length → (nth l i).size ≤ 4194304 := fun i hi => Nat.le_trans (hl i hi) (by decide)
 refine Ba [.tmp 8] Tryz.func3 rfl Tryz.ntmps3 rfl rfl (fun B F hF => ?_)
 refine Ae [] [0, 1, 3, 6] [(1, 6)] hk0 v0 c0 ?_
 refine Ae [] [0, 1, 3, 6, 9] [] (hk 0 Q7v X0t <| hk0) v0 c0 ?_
 refine Ab ?_
 refine Ar ?_
 refine Bj 2 0 [] [3, 6, 9, 26, 27] [] hk0 v0 c0 ?_
 refine J8 [.tmp 4, .tmp 5] (al := [(.int .i64 kind), (Ah 4 A5 l)]) (s0 := [(3, (Bu s)), (6, (.fp (.agg [(.int .i64 d.kind), (.str d.name), (.int .i64 d.op), (.str d.evr), (.row 5 d.args.length (depAt d.args))]))), (9, (.bool true)), (26, (.int .i64 kind)), (27, (Ah 4 A5 l))]) (by kernel_rfl) (by exact Yn) (by kernel_rfl) Tryz.func9 rfl Tryz.ntmps9 rfl (by kernel_rfl) (by kernel_rfl) (fun F1 hF1 hle1 => ?_)
 have hF1 : F1.lo = 1 := hF1
 refine Aa [] [0, 1] ?_
 refine C7 (fun y => y = ⟨[(0, (.int .i64 ((Ac kind)))), (1, (Ah 4 A5 l))], [], 1⟩) [0, 1] 1 (by omega) ?_ ?_
 ·refine Aa [] [0, 1, 12] ?_
  refine Cj (p := kind = 2) (by kernel_rfl) (fun c1 => ?_) (fun c1 => ?_)
  ·refine Ar ?_
   refine D4 [] [0, 1] ?_
   refine ⟨by kernel_rfl, (Eq.trans (b := (⟨[(0, (.int .i64 1)), (1, (Ah 4 A5 l))], [], 1⟩ : St)) (by kernel_rfl) (by rw [show Ac kind = 1 from if_neg (by assumption)] <;> rfl))⟩
  ·refine Ai ?_
   refine ⟨by kernel_rfl, (Eq.trans (b := (⟨[(0, (.int .i64 kind)), (1, (Ah 4 A5 l))], [], 1⟩ : St)) (by kernel_rfl) (by rw [show Ac kind = kind from Xc (by omega)] <;> rfl))⟩
 ·rintro y1 rfl
  refine Ab ?_
  refine Ar ?_
  refine Bj 1 0 [] [0, 1, 14] [] hk0 v0 c0 ?_
  refine J8 [.tmp 2, .tmp 3] (al := [(.int .i64 ((Ac kind)))]) (s0 := [(0, (.int .i64 ((Ac kind)))), (1, (Ah 4 A5 l)), (14, (.int .i64 ((Ac kind))))]) (by kernel_rfl) (by exact Yz) (by kernel_rfl) Tryz.func39 rfl Tryz.ntmps39 rfl (by kernel_rfl) (by kernel_rfl) (fun F1_1 hF1_1 hle1_1 => ?_)
  refine Aa [] [0] ?_
  refine Ab ?_
  obtain ⟨b1_1_1, hb1_1_1⟩ : ∃ b, b = (!decide ((Ac kind) = 1)) := ⟨_, rfl⟩
  refine Ae (CS := [(4, (b1_1_1 = true → b1_1_1 = true)), (5, (b1_1_1 = true → b1_1_1 = true))]) [7, 8] [0, 9] [] hk0 (vk 3 6 (a := .bool (!decide ((Ac kind) = 1))) (b := .bool b1_1_1) (Imp.of_eq (by rw [hb1_1_1])) <| v0) (by refine cc _ ?_ <| cc _ ?_ c0 <;> first | omega | (simp; omega) | (simp; done) | (intros; simp_all; omega) | (intros; simp_all; done)) ?_
  refine A9 (q := b1_1_1 && (!decide ((Ac kind) = 2))) (by kernel_rfl) (fun c2 => ?_) (fun c2 => ?_)
  ·subst hb1_1_1
   try simp only [Al] at c2
   exact absurd (Og kind) fun h => h.elim c2.1 c2.2
  ·subst hb1_1_1
   try simp only [Al] at c2
   refine Ai ?_
   refine Aa [] [2, 3] ?_
   refine Ag ?_
   refine Io (.inl rfl) (al := [(.ptr 2 0), (.int .i64 0)]) (s' := [(0, (.int .i64 ((Ac kind)))), (1, (Ah 4 A5 l)), (14, (.int .i64 ((Ac kind)))), (15, (.tup [(.ptr 2 0), (.int .i64 0)]))]) (by kernel_rfl) (by kernel_rfl) ?_
   refine A2 2 [] [0, 1, 6, 7] [] hk0 v0 c0 ?_
   refine Ab ?_
   refine Ar ?_
   refine Bj 1 0 [] [1, 6, 7, 19] [] hk0 v0 c0 ?_
   refine J8 [.tmp 2, .tmp 3] (al := [(.int .i64 ((Ac kind)))]) (s0 := [(1, (Ah 4 A5 l)), (6, (.ptr 2 0)), (7, (.int .i64 0)), (19, (.int .i64 ((Ac kind))))]) (by kernel_rfl) (by exact Yy) (by kernel_rfl) Tryz.func40 rfl Tryz.ntmps40 rfl (by kernel_rfl) (by kernel_rfl) (fun F1_2 hF1_2 hle1_2 => ?_)
   refine Aa [] [0] ?_
   refine Ab ?_
   obtain ⟨b1_2_1, hb1_2_1⟩ : ∃ b, b = (!decide ((Ac kind) = 1)) := ⟨_, rfl⟩
   refine Ae (CS := [(4, (b1_2_1 = true → b1_2_1 = true)), (5, (b1_2_1 = true → b1_2_1 = true))]) [7, 8] [0, 9] [] hk0 (vk 3 6 (a := .bool (!decide ((Ac kind) = 1))) (b := .bool b1_2_1) (Imp.of_eq (by rw [hb1_2_1])) <| v0) (by refine cc _ ?_ <| cc _ ?_ c0 <;> first | omega | (simp; omega) | (simp; done) | (intros; simp_all; omega) | (intros; simp_all; done)) ?_
   refine A9 (q := b1_2_1 && (!decide ((Ac kind) = 2))) (by kernel_rfl) (fun c3 => ?_) (fun c3 => ?_)
   ·subst hb1_2_1
    try simp only [Al] at c3
    exact absurd (Og kind) fun h => h.elim c3.1 c3.2
   ·subst hb1_2_1
    try simp only [Al] at c3
    refine Ai ?_
    refine Aa [] [2, 3] ?_
    refine Ag ?_
    refine Io (.inl rfl) (al := [(.ptr 3 0), (.int .i64 0)]) (s' := [(1, (Ah 4 A5 l)), (6, (.ptr 2 0)), (7, (.int .i64 0)), (19, (.int .i64 ((Ac kind)))), (20, (.tup [(.ptr 3 0), (.int .i64 0)]))]) (by kernel_rfl) (by kernel_rfl) ?_
    refine A2 2 [] [1, 6, 7, 8] [] hk0 v0 c0 ?_
    refine Ab ?_
    refine Aa [] [1, 6, 8, 28] ?_
    refine Db (by kernel_rfl) ?_
    refine Ai ?_
    refine Ab ?_
    refine Aa [] [1, 6, 8, 10] ?_
    refine A3 ?_
    refine Ib 41 4 2 1 (y := ⟨[(1, (Ah 4 A5 l)), (6, (.ptr 2 0)), (8, (.ptr 3 0)), (10, (.int .i64 0))], [(1, (.map [] 0)), (2, (.row [(.int .i64 ((Ac kind))), (.own 4), .nils, (.map 1)] 92)), (3, (.row [(.int .i64 ((Ac kind))), .nils, .nils] 107)), (4, (.grow [] 41 4))], 5⟩) (by kernel_rfl) (by kernel_rfl) ?_
    refine Ib 97 13 2 2 (y := ⟨[(1, (Ah 4 A5 l)), (6, (.ptr 2 0)), (8, (.ptr 3 0)), (10, (.int .i64 0))], [(1, (.map [] 0)), (2, (.row [(.int .i64 ((Ac kind))), (.own 4), (.own 5), (.map 1)] 92)), (3, (.row [(.int .i64 ((Ac kind))), .nils, .nils] 107)), (4, (.grow [] 41 4)), (5, (.grow [] 97 13))], 6⟩) (by kernel_rfl) (by kernel_rfl) ?_
    refine Ib 41 4 3 1 (y := ⟨[(1, (Ah 4 A5 l)), (6, (.ptr 2 0)), (8, (.ptr 3 0)), (10, (.int .i64 0))], [(1, (.map [] 0)), (2, (.row [(.int .i64 ((Ac kind))), (.own 4), (.own 5), (.map 1)] 92)), (3, (.row [(.int .i64 ((Ac kind))), (.own 6), .nils] 107)), (4, (.grow [] 41 4)), (5, (.grow [] 97 13)), (6, (.grow [] 41 4))], 7⟩) (by kernel_rfl) (by kernel_rfl) ?_
    refine Ib 128 2 3 2 (y := ⟨[(1, (Ah 4 A5 l)), (6, (.ptr 2 0)), (8, (.ptr 3 0)), (10, (.int .i64 0))], [(1, (.map [] 0)), (2, (.row [(.int .i64 ((Ac kind))), (.own 4), (.own 5), (.map 1)] 92)), (3, (.row [(.int .i64 ((Ac kind))), (.own 6), (.own 7)] 107)), (4, (.grow [] 41 4)), (5, (.grow [] 97 13)), (6, (.grow [] 41 4)), (7, (.grow [] 128 2))], 8⟩) (by kernel_rfl) (by kernel_rfl) ?_
    refine Pm 1 3 1 (y := ⟨[(1, (Ah 4 A5 l)), (6, (.ptr 2 0)), (8, (.ptr 3 0)), (10, (.int .i64 0))], [(1, (.mm (fun _ => []) none 3 1)), (2, (.row [(.int .i64 ((Ac kind))), (.own 4), (.own 5), (.map 1)] 92)), (3, (.row [(.int .i64 ((Ac kind))), (.own 6), (.own 7)] 107)), (4, (.grow [] 41 4)), (5, (.grow [] 97 13)), (6, (.grow [] 41 4)), (7, (.grow [] 128 2))], 8⟩) (by kernel_rfl) ?_
    refine Bs (fun g y => ∃ (i : Nat), i ≤ l.length ∧ y = ⟨[(1, (Ah 4 A5 l)), (6, (.ptr 2 0)), (8, (.ptr 3 0)), (10, (.int .i64 ((i : Int))))], [(1, (.mm (Au ((Ad (Ac kind) (l.take i)).1).all) none 3 1)), (2, (.row [(.int .i64 ((Ad (Ac kind) (l.take i)).1.kind)), (.own 4), (.own 5), (.map 1)] 92)), (3, (.row [(.int .i64 ((Ad (Ac kind) (l.take i)).1.kind)), (.own 6), (.own 7)] 107)), (4, (.grow (((Ad (Ac kind) (l.take i)).1).repos.map Av) 41 4)), (5, (.grow (((Ad (Ac kind) (l.take i)).1).all.map Am) 97 13)), (6, (.grow (((Ad (Ac kind) (l.take i)).1).repos.map A5) 41 4)), (7, (.grow (((Ad (Ac kind) (l.take i)).2).map atX) 128 2))], 8⟩ ∧ g = l.length - i) [1, 6, 8, 10] 8 _ (by omega) ⟨0, (by omega), (by kernel_rfl), rfl⟩ ?_
    rintro g1 y1 ⟨i, f1_1_1, rfl, rfl⟩
    have hb := Pa (Ac kind) (l.take i)
    refine Ab ?_
    refine Aa [] [1, 6, 8, 10, 32] ?_
    refine A8 (p := (i : Int) < (l.length : Int)) (by kernel_rfl) (fun c4 => ?_) (fun c4 => ?_)
    ·have hz := RepoT.sizes (nth l i)
     have hw := hl4 i (by omega)
     refine Ai ?_
     refine Ab ?_
     refine A3 ?_
     refine Ab ?_
     refine Hr (by kernel_rfl) (fun F1 hF1 => ?_)
     refine Cp (fuel := 3) [] [0, 1, 2, 3, 4, 6, 7, 8, 9, 10] [1, 6, 8, 10, 35, 39, 41, 45] (hold (p := (0 ≤ (i : Int) ∧ i < l.length) ∧ (0 ≤ (i : Int) ∧ i < l.length)) (by first | omega | (simp; omega) | (simp; done) | (intros; simp_all; omega) | (intros; simp_all; done))) ?_
     refine Dt (fuel := 2) 5 (by kernel_rfl) ?_
     refine Bm (fuel := 2) 5 rfl ?_
     refine C3 [2, 4, 5, 1] (al := [(.ptr 2 0), (.agg [(.str ((nth l i).name)), (.int .i64 ((nth l i).prio)), (.bool ((nth l i).inst)), (Ah 12 Ak ((nth l i).pkgs))])]) (al' := [(.ptr 0 0), (.agg [(.str ((nth l i).name)), (.int .i64 ((nth l i).prio)), (.bool ((nth l i).inst)), (Ah 12 Ak ((nth l i).pkgs))])]) (r := (.int .i64 (B2 (Ad (Ac kind) (l.take i)).1 (nth l i)))) (r' := (.int .i64 (B2 (Ad (Ac kind) (l.take i)).1 (nth l i)))) (s' := [(1, (Ah 4 A5 l)), (6, (.ptr 2 0)), (8, (.ptr 3 0)), (10, (.int .i64 ((i : Int)))), (35, (.ptr 2 0)), (39, (.agg [(.str ((nth l i).name)), (.int .i64 ((nth l i).prio)), (.bool ((nth l i).inst)), (Ah 12 Ak ((nth l i).pkgs))])), (41, (.ptr 3 0)), (45, (.agg [(.str ((nth l i).name)), (.int .i64 ((nth l i).prio)), (.bool ((nth l i).inst)), (Ah 12 Ak ((nth l i).pkgs))])), (40, (.int .i64 (B2 (Ad (Ac kind) (l.take i)).1 (nth l i))))]) (H := [(0, (.row [(.int .i64 ((Ad (Ac kind) (l.take i)).1.kind)), (.own 1), (.own 2), (.map 3)] 92)), (1, (.grow (((Ad (Ac kind) (l.take i)).1).repos.map Av) 41 4)), (2, (.grow (((Ad (Ac kind) (l.take i)).1).all.map Am) 97 13)), (3, (.mm (Au ((Ad (Ac kind) (l.take i)).1).all) none 3 1))]) (H' := [(0, (.row [(.int .i64 ((Bk (Ad (Ac kind) (l.take i)).1 (nth l i)).kind)), (.own 1), (.own 2), (.map 3)] 92)), (1, (.grow ((Bk (Ad (Ac kind) (l.take i)).1 (nth l i)).repos.map Av) 41 4)), (2, (.grow ((Bk (Ad (Ac kind) (l.take i)).1 (nth l i)).all.map Am) 97 13)), (3, (.mm (Au (Bk (Ad (Ac kind) (l.take i)).1 (nth l i)).all) none 3 1))]) (h2 := [(1, (.mm (Au (Bk (Ad (Ac kind) (l.take i)).1 (nth l i)).all) none 3 1)), (2, (.row [(.int .i64 ((Bk (Ad (Ac kind) (l.take i)).1 (nth l i)).kind)), (.own 4), (.own 5), (.map 1)] 92)), (3, (.row [(.int .i64 ((Ad (Ac kind) (l.take i)).1.kind)), (.own 6), (.own 7)] 107)), (4, (.grow ((Bk (Ad (Ac kind) (l.take i)).1 (nth l i)).repos.map Av) 41 4)), (5, (.grow ((Bk (Ad (Ac kind) (l.take i)).1 (nth l i)).all.map Am) 97 13)), (6, (.grow (((Ad (Ac kind) (l.take i)).1).repos.map A5) 41 4)), (7, (.grow (((Ad (Ac kind) (l.take i)).2).map atX) 128 2))]) (by kernel_rfl) (by exact R7) (by kernel_rfl) (by kernel_rfl) (by kernel_rfl) (by kernel_rfl) (by kernel_rfl) (Ta (Ad (Ac kind) (l.take i)).1 (nth l i) hb.1 hb.2.1 (by omega) (by omega) (fun j hj => Nat.le_trans (RepoT.size_pkg hj) (hl4 i (by omega)))) (by kernel_rfl) (by kernel_rfl) (by kernel_rfl) ?_
     refine Be ⟨rfl, ?_⟩
     refine Dt (fuel := 1) 11 (by kernel_rfl) ?_
     refine Bm (fuel := 1) 11 rfl ?_
     refine C3 [3, 6, 7] (al := [(.ptr 3 0), (.agg [(.str ((nth l i).name)), (.int .i64 ((nth l i).prio)), (.bool ((nth l i).inst)), (Ah 12 Ak ((nth l i).pkgs))])]) (al' := [(.ptr 0 0), (.agg [(.str ((nth l i).name)), (.int .i64 ((nth l i).prio)), (.bool ((nth l i).inst)), (Ah 12 Ak ((nth l i).pkgs))])]) (r := (.int .i64 (B2 (Ad (Ac kind) (l.take i)).1 (nth l i)))) (r' := (.int .i64 (B2 (Ad (Ac kind) (l.take i)).1 (nth l i)))) (s' := [(1, (Ah 4 A5 l)), (6, (.ptr 2 0)), (8, (.ptr 3 0)), (10, (.int .i64 ((i : Int)))), (35, (.ptr 2 0)), (39, (.agg [(.str ((nth l i).name)), (.int .i64 ((nth l i).prio)), (.bool ((nth l i).inst)), (Ah 12 Ak ((nth l i).pkgs))])), (41, (.ptr 3 0)), (45, (.agg [(.str ((nth l i).name)), (.int .i64 ((nth l i).prio)), (.bool ((nth l i).inst)), (Ah 12 Ak ((nth l i).pkgs))])), (40, (.int .i64 (B2 (Ad (Ac kind) (l.take i)).1 (nth l i)))), (46, (.int .i64 (B2 (Ad (Ac kind) (l.take i)).1 (nth l i))))]) (H := [(0, (.row [(.int .i64 ((Ad (Ac kind) (l.take i)).1.kind)), (.own 1), (.own 2)] 107)), (1, (.grow (((Ad (Ac kind) (l.take i)).1).repos.map A5) 41 4)), (2, (.grow (((Ad (Ac kind) (l.take i)).2).map atX) 128 2))]) (H' := [(0, (.row [(.int .i64 ((Bk (Ad (Ac kind) (l.take i)).1 (nth l i)).kind)), (.own 1), (.own 2)] 107)), (1, (.grow ((Bk (Ad (Ac kind) (l.take i)).1 (nth l i)).repos.map A5) 41 4)), (2, (.grow ((D1 (Ad (Ac kind) (l.take i)).2 (Ad (Ac kind) (l.take i)).1 (nth l i)).map atX) 128 2))]) (h2 := [(1, (.mm (Au (Bk (Ad (Ac kind) (l.take i)).1 (nth l i)).all) none 3 1)), (2, (.row [(.int .i64 ((Bk (Ad (Ac kind) (l.take i)).1 (nth l i)).kind)), (.own 4), (.own 5), (.map 1)] 92)), (3, (.row [(.int .i64 ((Bk (Ad (Ac kind) (l.take i)).1 (nth l i)).kind)), (.own 6), (.own 7)] 107)), (4, (.grow ((Bk (Ad (Ac kind) (l.take i)).1 (nth l i)).repos.map Av) 41 4)), (5, (.grow ((Bk (Ad (Ac kind) (l.take i)).1 (nth l i)).all.map Am) 97 13)), (6, (.grow ((Bk (Ad (Ac kind) (l.take i)).1 (nth l i)).repos.map A5) 41 4)), (7, (.grow ((D1 (Ad (Ac kind) (l.take i)).2 (Ad (Ac kind) (l.take i)).1 (nth l i)).map atX) 128 2))]) (by kernel_rfl) (by exact Yx) (by kernel_rfl) (by kernel_rfl) (by kernel_rfl) (by kernel_rfl) (by kernel_rfl) (Uv (Ad (Ac kind) (l.take i)).1 (Ad (Ac kind) (l.take i)).2 (nth l i) hb.1 hb.2.1 hb.2.2 (by omega) (by omega) (fun j hj => Nat.le_trans (RepoT.size_pkg hj) (hl4 i (by omega)))) (by kernel_rfl) (by kernel_rfl) (by kernel_rfl) ?_
     refine Be ⟨rfl, ?_⟩
     refine Cp (fuel := 0) [] [12] [1, 6, 8, 10, 47] Aw ?_
     refine An [1, 6, 8, 10, 47] ?_
     refine Gn (by kernel_rfl) ?_
     refine Cj (p := (B2 (Ad (Ac kind) (l.take i)).1 (nth l i)) = (B2 (Ad (Ac kind) (l.take i)).1 (nth l i))) (by kernel_rfl) (fun c5 => ?_) (fun c5 => ?_)
     ·exact absurd rfl c5
     ·refine Ai ?_
      refine Ar ?_
      refine A2 0 [] [1, 6, 8, 10] [] hk0 v0 (cc 1 (p := (-9223372036854775808 ≤ (i : Int) + 1 ∧ (i : Int) + 1 ≤ 9223372036854775807)) (by first | omega | (simp; omega) | (simp; done) | (intros; simp_all; omega) | (intros; simp_all; done)) <| c0) ?_
      refine ⟨by kernel_rfl, _, ?_, i + 1, ?_, (Eq.trans (b := (⟨[(1, (Ah 4 A5 l)), (6, (.ptr 2 0)), (8, (.ptr 3 0)), (10, (.int .i64 ((i : Int) + 1)))], [(1, (.mm (Au (Bk (Ad (Ac kind) (l.take i)).1 (nth l i)).all) none 3 1)), (2, (.row [(.int .i64 ((Bk (Ad (Ac kind) (l.take i)).1 (nth l i)).kind)), (.own 4), (.own 5), (.map 1)] 92)), (3, (.row [(.int .i64 ((Bk (Ad (Ac kind) (l.take i)).1 (nth l i)).kind)), (.own 6), (.own 7)] 107)), (4, (.grow ((Bk (Ad (Ac kind) (l.take i)).1 (nth l i)).repos.map Av) 41 4)), (5, (.grow ((Bk (Ad (Ac kind) (l.take i)).1 (nth l i)).all.map Am) 97 13)), (6, (.grow ((Bk (Ad (Ac kind) (l.take i)).1 (nth l i)).repos.map A5) 41 4)), (7, (.grow ((D1 (Ad (Ac kind) (l.take i)).2 (Ad (Ac kind) (l.take i)).1 (nth l i)).map atX) 128 2))], 8⟩ : St)) (by kernel_rfl) (by rw [Z6 (by omega)] <;> kernel_rfl)), rfl⟩
      ·omega
      ·omega
    ·have hl5 : ∀ j, j < (l.take i).length → (nth (l.take i) j).size ≤ 4194304 := fun j hj => by rw [List.length_take] at hj; have := hl4 j (by omega); rw [Q5b (by omega)]; exact this
     have hi := Z7 (k := Ac kind) hl5
     have hat := X0n (Ac kind) (l.take i)
     have hpl : (Ad (Ac kind) (l.take i)).2.length = (Ad (Ac kind) (l.take i)).1.all.length := hat.1
     have h200 := hi.1
     have hbo := Pa (Ac kind) (l.take i)
     refine Bl ?_
     refine Ab ?_
     refine Ar ?_
     refine Gm 3 1 (y := ⟨[(1, (Ah 4 A5 l)), (6, (.ptr 2 0)), (8, (.ptr 3 0)), (10, (.int .i64 ((i : Int)))), (32, (.bool (decide ((i : Int) < (l.length : Int)))))], [(1, (.mm (Au ((Ad (Ac kind) (l.take i)).1).all) none 3 1)), (2, (.row [(.int .i64 ((Ad (Ac kind) (l.take i)).1.kind)), (.own 4), (.own 5), (.map 1)] 92)), (3, (.row [(.int .i64 ((Ad (Ac kind) (l.take i)).1.kind)), (.row 4 (((Ad (Ac kind) (l.take i)).1).repos.map A5).length (fun ix => (((Ad (Ac kind) (l.take i)).1).repos.map A5).getD ix Bh)), (.own 7)] 107)), (4, (.grow (((Ad (Ac kind) (l.take i)).1).repos.map Av) 41 4)), (5, (.grow (((Ad (Ac kind) (l.take i)).1).all.map Am) 97 13)), (7, (.grow (((Ad (Ac kind) (l.take i)).2).map atX) 128 2))], 8⟩) (by kernel_rfl) ?_
     refine Gm 3 2 (y := ⟨[(1, (Ah 4 A5 l)), (6, (.ptr 2 0)), (8, (.ptr 3 0)), (10, (.int .i64 ((i : Int)))), (32, (.bool (decide ((i : Int) < (l.length : Int)))))], [(1, (.mm (Au ((Ad (Ac kind) (l.take i)).1).all) none 3 1)), (2, (.row [(.int .i64 ((Ad (Ac kind) (l.take i)).1.kind)), (.own 4), (.own 5), (.map 1)] 92)), (3, (.row [(.int .i64 ((Ad (Ac kind) (l.take i)).1.kind)), (.row 4 (((Ad (Ac kind) (l.take i)).1).repos.map A5).length (fun ix => (((Ad (Ac kind) (l.take i)).1).repos.map A5).getD ix Bh)), (.row 2 (((Ad (Ac kind) (l.take i)).2).map atX).length (fun ix => (((Ad (Ac kind) (l.take i)).2).map atX).getD ix Bh))] 107)), (4, (.grow (((Ad (Ac kind) (l.take i)).1).repos.map Av) 41 4)), (5, (.grow (((Ad (Ac kind) (l.take i)).1).all.map Am) 97 13))], 8⟩) (by kernel_rfl) ?_
     refine D4 [] [4, 5] ?_
     refine Ag ?_
     refine Io (.inl rfl) (al := [(.ptr 2 0), (.ptr 3 0)]) (s' := [(3, (Bu s)), (6, (.fp (.agg [(.int .i64 d.kind), (.str d.name), (.int .i64 d.op), (.str d.evr), (.row 5 d.args.length (depAt d.args))]))), (9, (.bool true)), (26, (.int .i64 kind)), (27, (Ah 4 A5 l)), (28, (.tup [(.ptr 2 0), (.ptr 3 0)]))]) (by kernel_rfl) (by kernel_rfl) ?_
     refine A2 3 [] [3, 6, 9, 10, 11] [] hk0 v0 c0 ?_
     refine Ab ?_
     refine Ar ?_
     refine Q1g 11 (y := ⟨[(3, (Bu s)), (6, (.fp (.agg [(.int .i64 d.kind), (.str d.name), (.int .i64 d.op), (.str d.evr), (.row 5 d.args.length (depAt d.args))]))), (9, (.bool true)), (10, (.ptr 2 0)), (11, (.fp (.agg [(.int .i64 ((Ad (Ac kind) (l.take i)).1.kind)), (.row 4 (((Ad (Ac kind) (l.take i)).1).repos.map A5).length (fun ix => (((Ad (Ac kind) (l.take i)).1).repos.map A5).getD ix Bh)), (.row 2 (((Ad (Ac kind) (l.take i)).2).map atX).length (fun ix => (((Ad (Ac kind) (l.take i)).2).map atX).getD ix Bh))])))], [(1, (.mm (Au ((Ad (Ac kind) (l.take i)).1).all) none 3 1)), (2, (.row [(.int .i64 ((Ad (Ac kind) (l.take i)).1.kind)), (.own 4), (.own 5), (.map 1)] 92)), (4, (.grow (((Ad (Ac kind) (l.take i)).1).repos.map Av) 41 4)), (5, (.grow (((Ad (Ac kind) (l.take i)).1).all.map Am) 97 13))], 8⟩) (by kernel_rfl) ?_
     refine Ff 11 (.fp (C0 ((Ad (Ac kind) (l.take i)).1) ((Ad (Ac kind) (l.take i)).2))) (by kernel_rfl) (show Imp (.fp (.agg [(.int .i64 ((Ad (Ac kind) (l.take i)).1.kind)), (.row 4 (((Ad (Ac kind) (l.take i)).1).repos.map A5).length (fun ix => (((Ad (Ac kind) (l.take i)).1).repos.map A5).getD ix Bh)), (.row 2 (((Ad (Ac kind) (l.take i)).2).map atX).length (fun ix => (((Ad (Ac kind) (l.take i)).2).map atX).getD ix Bh))])) (.fp (C0 ((Ad (Ac kind) (l.take i)).1) ((Ad (Ac kind) (l.take i)).2))) from Imp.fp (Imp.aggs (ImpL.cons Imp.refl (ImpL.cons (Imp.list (f := A5) (List.length_map _)) (ImpL.cons (Imp.list (f := atX) (List.length_map _)) ImpL.nil))))) ?_
     refine Bj 1 0 [] [3, 6, 9, 10, 11, 31] [] hk0 v0 c0 ?_
     refine C3 [2, 4, 5, 1] (al := [(.ptr 2 0)]) (al' := [(.ptr 0 0)]) (r := (.fp (Cb ((Ad (Ac kind) (l.take i)).1)))) (r' := (.fp (Cb ((Ad (Ac kind) (l.take i)).1)))) (s' := [(3, (Bu s)), (6, (.fp (.agg [(.int .i64 d.kind), (.str d.name), (.int .i64 d.op), (.str d.evr), (.row 5 d.args.length (depAt d.args))]))), (9, (.bool true)), (10, (.ptr 2 0)), (11, (.fp (C0 ((Ad (Ac kind) (l.take i)).1) ((Ad (Ac kind) (l.take i)).2)))), (31, (.ptr 2 0)), (32, (.fp (Cb ((Ad (Ac kind) (l.take i)).1))))]) (H := [(0, (.row [(.int .i64 ((Ad (Ac kind) (l.take i)).1.kind)), (.own 1), (.own 2), (.map 3)] 92)), (1, (.grow (((Ad (Ac kind) (l.take i)).1).repos.map Av) 41 4)), (2, (.grow (((Ad (Ac kind) (l.take i)).1).all.map Am) 97 13)), (3, (.mm (Au ((Ad (Ac kind) (l.take i)).1).all) none 3 1))]) (H' := [(0, (.row [(.int .i64 ((Ad (Ac kind) (l.take i)).1.kind)), (.own 1), (.own 2), (.map 3)] 92)), (1, (.grow (((Ad (Ac kind) (l.take i)).1).repos.map Av) 41 4)), (2, (.grow (((Ad (Ac kind) (l.take i)).1).all.map Am) 97 13)), (3, (.mm (Au ((Ad (Ac kind) (l.take i)).1).all) none 3 1))]) (h2 := [(1, (.mm (Au ((Ad (Ac kind) (l.take i)).1).all) none 3 1)), (2, (.row [(.int .i64 ((Ad (Ac kind) (l.take i)).1.kind)), (.own 4), (.own 5), (.map 1)] 92)), (4, (.grow (((Ad (Ac kind) (l.take i)).1).repos.map Av) 41 4)), (5, (.grow (((Ad (Ac kind) (l.take i)).1).all.map Am) 97 13))]) (by kernel_rfl) (by exact Zm) (by kernel_rfl) (by kernel_rfl) (by kernel_rfl) (by kernel_rfl) (by kernel_rfl) (X24 (Ad (Ac kind) (l.take i)).1 hi.1 hi.2) (by kernel_rfl) (by kernel_rfl) (by kernel_rfl) ?_
     refine A2 2 [] [3, 6, 9, 10, 11, 12] [] hk0 v0 c0 ?_
     refine Ab ?_
     refine Aa [] [3, 6, 10, 11, 12, 42] ?_
     refine Db (by kernel_rfl) ?_
     refine Ai ?_
     refine Ab ?_
     refine Ar ?_
     refine Bj 4 0 [] [3, 6, 11, 12, 43, 46] [(3, 45)] hk0 (vk 2 44 (a := (.agg [(.str ([97])), (.str ([57])), (.str ([110, 111, 97, 114, 99, 104])), (.str []), .nils, .nils, .nils, .nils, .nils, .nils, .nils, .nils])) (b := (Ak ltP)) ((Imp.aggs (ImpL.cons Imp.refl (ImpL.cons Imp.refl (ImpL.cons Imp.refl (ImpL.cons Imp.refl (ImpL.cons Imp.nil (ImpL.cons Imp.nil (ImpL.cons Imp.nil (ImpL.cons Imp.nil (ImpL.cons Imp.nil (ImpL.cons Imp.nil (ImpL.cons Imp.nil (ImpL.cons Imp.nil ImpL.nil)))))))))))))) <| vk 3 45 (b := (Ah 12 Ak [ltP])) (Imp.list (f := Ak) rfl) <| v0) c0 ?_
     refine Ff 46 (.agg [(.str ltR.name), (.int .i64 ltR.prio), (.bool ltR.inst), (Ah 12 Ak ltR.pkgs)]) (by kernel_rfl) ((Imp.aggs (ImpL.cons Imp.refl (ImpL.cons Imp.refl (ImpL.cons Imp.refl (ImpL.cons Imp.refl ImpL.nil)))))) ?_
     refine C3 [2, 4, 5, 1] (al := [(.ptr 2 0), (.agg [(.str ltR.name), (.int .i64 ltR.prio), (.bool ltR.inst), (Ah 12 Ak ltR.pkgs)])]) (al' := [(.ptr 0 0), (.agg [(.str ltR.name), (.int .i64 ltR.prio), (.bool ltR.inst), (Ah 12 Ak ltR.pkgs)])]) (r := (.int .i64 (B2 (Ad (Ac kind) (l.take i)).1 ltR))) (r' := (.int .i64 (B2 (Ad (Ac kind) (l.take i)).1 ltR))) (s' := [(3, (Bu s)), (6, (.fp (.agg [(.int .i64 d.kind), (.str d.name), (.int .i64 d.op), (.str d.evr), (.row 5 d.args.length (depAt d.args))]))), (11, (.fp (C0 ((Ad (Ac kind) (l.take i)).1) ((Ad (Ac kind) (l.take i)).2)))), (12, (.fp (Cb ((Ad (Ac kind) (l.take i)).1)))), (43, (.ptr 2 0)), (46, (.agg [(.str ltR.name), (.int .i64 ltR.prio), (.bool ltR.inst), (Ah 12 Ak ltR.pkgs)])), (47, (.int .i64 (B2 (Ad (Ac kind) (l.take i)).1 ltR)))]) (H := [(0, (.row [(.int .i64 ((Ad (Ac kind) (l.take i)).1.kind)), (.own 1), (.own 2), (.map 3)] 92)), (1, (.grow (((Ad (Ac kind) (l.take i)).1).repos.map Av) 41 4)), (2, (.grow (((Ad (Ac kind) (l.take i)).1).all.map Am) 97 13)), (3, (.mm (Au ((Ad (Ac kind) (l.take i)).1).all) none 3 1))]) (H' := [(0, (.row [(.int .i64 ((Bk (Ad (Ac kind) (l.take i)).1 ltR).kind)), (.own 1), (.own 2), (.map 3)] 92)), (1, (.grow ((Bk (Ad (Ac kind) (l.take i)).1 ltR).repos.map Av) 41 4)), (2, (.grow ((Bk (Ad (Ac kind) (l.take i)).1 ltR).all.map Am) 97 13)), (3, (.mm (Au (Bk (Ad (Ac kind) (l.take i)).1 ltR).all) none 3 1))]) (h2 := [(1, (.mm (Au (Bk (Ad (Ac kind) (l.take i)).1 ltR).all) none 3 1)), (2, (.row [(.int .i64 ((Bk (Ad (Ac kind) (l.take i)).1 ltR).kind)), (.own 4), (.own 5), (.map 1)] 92)), (4, (.grow ((Bk (Ad (Ac kind) (l.take i)).1 ltR).repos.map Av) 41 4)), (5, (.grow ((Bk (Ad (Ac kind) (l.take i)).1 ltR).all.map Am) 97 13))]) (by kernel_rfl) (by exact R7) (by kernel_rfl) (by kernel_rfl) (by kernel_rfl) (by kernel_rfl) (by kernel_rfl) (Ta (Ad (Ac kind) (l.take i)).1 ltR hbo.1 hbo.2.1 (by decide) (by decide) Q54) (by kernel_rfl) (by kernel_rfl) (by kernel_rfl) ?_
     refine Be ?_
     refine Ae [] [3, 6, 11, 12, 13] [] (hk 1 Q9a (Q39 d (by omega)) <| hk0) v0 c0 ?_
     refine Ae [] [3, 6, 11, 12, 13, 14, 15] [] (hk 2 Zh (Q04 A0 K0 (Ad (Ac kind) (l.take i)).1 hi d (by omega)) <| hk0) v0 c0 ?_
     refine Ae [] [3, 6, 11, 12, 13, 14, 15, 16, 17] [] (hk 2 Q80 (X23 A0 K0 (Ad (Ac kind) (l.take i)).1 hi d (by omega)) <| hk0) v0 c0 ?_
     refine Ae [] [3, 6, 11, 13, 14, 15, 16, 17, 18, 19] [] (hk 3 R5 (S8 A0 K0 (Ad (Ac kind) (l.take i)).1 hi d s (by omega) (by omega)) <| hk0) v0 c0 ?_
     refine Ab ?_
     refine Aa [] [3, 6, 11, 13, 14, 15, 16, 17, 18, 19, 70] ?_
     refine Cj (p := (Bq d) = 0) (by kernel_rfl) (fun c6 => ?_) (fun c6 => ?_)
     ·have ew := Q14 (st := (Ad (Ac kind) (l.take i)).1) c6
      have eo := Q46 (st := (Ad (Ac kind) (l.take i)).1) c6
      have em := Q5u (st := (Ad (Ac kind) (l.take i)).1) (s := s) c6
      obtain ⟨b1, hb1⟩ : ∃ b, b = (decide ((((Dl A0 (Ad (Ac kind) (l.take i)).1 d).1).length : Int) = 0)) := ⟨_, rfl⟩
      obtain ⟨b2, hb2⟩ : ∃ b, b = (b1 && (decide ((((Di A0 (Ad (Ac kind) (l.take i)).1 d).1).length : Int) = 0))) := ⟨_, rfl⟩
      obtain ⟨b3, hb3⟩ : ∃ b, b = (b2 && (!((Cd A0 (Ad (Ac kind) (l.take i)).1 d s).1))) := ⟨_, rfl⟩
      obtain ⟨b4, hb4⟩ : ∃ b, b = (b3 && (decide (((Dl A0 (Ad (Ac kind) (l.take i)).1 d).2) = (Bq d)))) := ⟨_, rfl⟩
      obtain ⟨b5, hb5⟩ : ∃ b, b = (b4 && (decide (((Di A0 (Ad (Ac kind) (l.take i)).1 d).2) = (Bq d)))) := ⟨_, rfl⟩
      obtain ⟨b6, hb6⟩ : ∃ b, b = (b5 && (decide (((Cd A0 (Ad (Ac kind) (l.take i)).1 d s).2) = (Bq d)))) := ⟨_, rfl⟩
      refine Ae (CS := [(5, (b1 = true → b1 = true)), (6, (b1 = true → b1 = true)), (7, (b1 = true → b1 = true)), (10, (b2 = true → b2 = true)), (11, (b2 = true → b2 = true)), (15, (b3 = true → b3 = true ∧ b3 = true)), (16, (b3 = true → b3 = true)), (20, (b4 = true → b4 = true ∧ b4 = true)), (21, (b4 = true → b4 = true)), (25, (b5 = true → b5 = true ∧ b5 = true)), (26, (b5 = true → b5 = true))]) [75, 76, 77, 80, 81, 84, 85, 86, 89, 90, 91, 94, 95, 96] [8] [] hk0 (vk 4 74 (a := .bool (decide ((((Dl A0 (Ad (Ac kind) (l.take i)).1 d).1).length : Int) = 0))) (b := .bool b1) (Imp.of_eq (by rw [hb1])) <| vk 8 78 (a := .bool (b1 && (decide ((((Di A0 (Ad (Ac kind) (l.take i)).1 d).1).length : Int) = 0)))) (b := .bool b2) (Imp.of_eq (by rw [hb2])) <| vk 12 82 (a := .bool (b2 && (!((Cd A0 (Ad (Ac kind) (l.take i)).1 d s).1)))) (b := .bool b3) (Imp.of_eq (by rw [hb3])) <| vk 17 87 (a := .bool (b3 && (decide (((Dl A0 (Ad (Ac kind) (l.take i)).1 d).2) = (Bq d))))) (b := .bool b4) (Imp.of_eq (by rw [hb4])) <| vk 22 92 (a := .bool (b4 && (decide (((Di A0 (Ad (Ac kind) (l.take i)).1 d).2) = (Bq d))))) (b := .bool b5) (Imp.of_eq (by rw [hb5])) <| vk 27 97 (a := .bool (b5 && (decide (((Cd A0 (Ad (Ac kind) (l.take i)).1 d s).2) = (Bq d))))) (b := .bool b6) (Imp.of_eq (by rw [hb6])) <| v0) (by refine cc _ ?_ <| cc _ ?_ <| cc _ ?_ <| cc _ ?_ <| cc _ ?_ <| cc _ ?_ <| cc _ ?_ <| cc _ ?_ <| cc _ ?_ <| cc _ ?_ <| cc _ ?_ c0 <;> first | omega | (simp; omega) | (simp; done) | (intros; simp_all; omega) | (intros; simp_all; done)) ?_
      refine Ag ?_
      refine RK wR [(.bool b6)] ?_
      subst hb6 hb5 hb4 hb3 hb2 hb1
      refine Same.of_eq ?_
      simp only [Aj]
      rw [ew, eo, em]
      simp
     ·have hck : Bq d = 0 := c6
      refine Ai ?_
      refine Ae [] [3, 6, 11, 14, 15, 16, 17, 18, 19, 20] [] (hk 1 Q8l (Q32 d) <| hk0) v0 c0 ?_
      refine Ab ?_
      refine Aa [] [3, 6, 11, 14, 15, 16, 17, 18, 19, 100] ?_
      refine A9 (q := Ks d.kind) (by kernel_rfl) (fun c7 => ?_) (fun c7 => ?_)
      ·try simp only [Al] at c7
       have hpk : Du d.kind = true := c7
       have ew := Q12 (st := (Ad (Ac kind) (l.take i)).1) hck c7
       refine Ae [] [3, 6, 11, 15, 16, 17, 18, 19, 21] [] (hk 3 Q8d (Q31 (Ad (Ac kind) (l.take i)).1 (Ad (Ac kind) (l.take i)).2 hat hi d (Le hck) (by omega) hpk) <| hk 4 Zc ((U4 ((Dl A0 (Ad (Ac kind) (l.take i)).1 d).1) (Cv A0 (Ad (Ac kind) (l.take i)).1 d (Ad (Ac kind) (l.take i)).1.all.length) (by rw [ew]; exact Nat.le_trans Ps (by omega))).to (Same.of_eq (congrArg AV.bool (decide_eq_true (by rw [ew]))))) <| hk0) v0 c0 ?_
       refine Aa [] [3, 6, 11, 16, 17, 18, 19, 111] ?_
       refine Cj (p := ((Dl A0 (Ad (Ac kind) (l.take i)).1 d).2) = 0) (by kernel_rfl) (fun c8 => ?_) (fun c8 => ?_)
       ·rw [ew] at c8; exact absurd rfl c8
       ·refine Ai ?_
        refine Ab ?_
        refine Aa [] [3, 6, 11, 16, 17, 18, 19, 121] ?_
        refine A8 (p := d.kind = 1) (by kernel_rfl) (fun c9 => ?_) (fun c9 => ?_)
        ·have eo := Q45 (st := (Ad (Ac kind) (l.take i)).1) hck c9
         refine Ae [] [3, 6, 11, 17, 18, 19, 22] [] (hk 3 Q8b (Q34 (Ad (Ac kind) (l.take i)).1 (Ad (Ac kind) (l.take i)).2 hat hi d (by omega)) <| hk 4 Zc ((U4 ((Di A0 (Ad (Ac kind) (l.take i)).1 d).1) (Dy (Ad (Ac kind) (l.take i)).1 d (Ad (Ac kind) (l.take i)).1.all.length) (by rw [eo]; exact Nat.le_trans Wl (by omega))).to (Same.of_eq (congrArg AV.bool (decide_eq_true (by rw [eo]))))) <| hk0) v0 c0 ?_
         refine Aa [] [3, 6, 11, 18, 19, 132] ?_
         refine Cj (p := ((Di A0 (Ad (Ac kind) (l.take i)).1 d).2) = 0) (by kernel_rfl) (fun c10 => ?_) (fun c10 => ?_)
         ·rw [eo] at c10; exact absurd rfl c10
         ·refine Ai ?_
          refine Ae [] [3, 6, 11, 18, 19, 23] [] (hk 2 R2 (Qo (Ad (Ac kind) (l.take i)).1 (Ad (Ac kind) (l.take i)).2 s (by omega)) <| hk0) v0 c0 ?_
          refine Ab ?_
          refine Aa [] [3, 6, 11, 18, 19, 144] ?_
          refine A9 (q := !(s.all fun x => decide (0 ≤ x) && decide (x < ((Ad (Ac kind) (l.take i)).2.length : Int)))) (by kernel_rfl) (fun c11 => ?_) (fun c11 => ?_)
          ·try simp only [Al] at c11
           have em := Q3 (st := (Ad (Ac kind) (l.take i)).1) (s := s) hpl hck c11
           obtain ⟨b7, hb7⟩ : ∃ b, b = (!((Cd A0 (Ad (Ac kind) (l.take i)).1 d s).1)) := ⟨_, rfl⟩
           obtain ⟨b8, hb8⟩ : ∃ b, b = (b7 && (decide (((Cd A0 (Ad (Ac kind) (l.take i)).1 d s).2) = 69))) := ⟨_, rfl⟩
           refine Ae (CS := [(4, (b7 = true → b7 = true)), (5, (b7 = true → b7 = true))]) [148, 149] [8] [] hk0 (vk 3 147 (a := .bool (!((Cd A0 (Ad (Ac kind) (l.take i)).1 d s).1))) (b := .bool b7) (Imp.of_eq (by rw [hb7])) <| vk 6 150 (a := .bool (b7 && (decide (((Cd A0 (Ad (Ac kind) (l.take i)).1 d s).2) = 69)))) (b := .bool b8) (Imp.of_eq (by rw [hb8])) <| v0) (by refine cc _ ?_ <| cc _ ?_ c0 <;> first | omega | (simp; omega) | (simp; done) | (intros; simp_all; omega) | (intros; simp_all; done)) ?_
           refine Ag ?_
           refine RK wR [(.bool b8)] ?_
           subst hb8 hb7
           refine Same.of_eq ?_
           simp only [Aj]
           rw [em]
           simp
          ·try simp only [Al] at c11
           have hsi : ∀ x ∈ s, 0 ≤ x ∧ x < (Ad (Ac kind) (l.take i)).1.all.length := by rw [← hpl]; exact Sr c11
           have em := Q4 (m := A0) hck hsi
           refine Ai ?_
           obtain ⟨b9, hb9⟩ : ∃ b, b = (decide (((Cd A0 (Ad (Ac kind) (l.take i)).1 d s).2) = 0)) := ⟨_, rfl⟩
           obtain ⟨b10, hb10⟩ : ∃ b, b = (b9 && (((Cd A0 (Ad (Ac kind) (l.take i)).1 d s).1) == (B1 A0 (Ad (Ac kind) (l.take i)).1 s d.size d))) := ⟨_, rfl⟩
           refine Ae (CS := [(7, b9 = true → b9 = true ∧ b9 = true ∧ b9 = true), (8, (b9 = true → b9 = true ∧ b9 = true)), (9, (b9 = true → b9 = true))]) [154, 155, 156, 157, 159] [8] [] (hkg 7 b9 It (fun cg => Qn (Ad (Ac kind) (l.take i)).1 (Ad (Ac kind) (l.take i)).2 hat hi s hsi (by omega) d.size d (Nat.le_refl _) (Le hck) (by omega)) <| hk0) (vk 3 153 (a := .bool (decide (((Cd A0 (Ad (Ac kind) (l.take i)).1 d s).2) = 0))) (b := .bool b9) (Imp.of_eq (by rw [hb9])) <| vk 10 160 (a := .bool (b9 && (((Cd A0 (Ad (Ac kind) (l.take i)).1 d s).1) == (B1 A0 (Ad (Ac kind) (l.take i)).1 s d.size d)))) (b := .bool b10) (Imp.of_eq (by rw [hb10])) <| v0) (by refine cc _ ?_ <| cc _ ?_ <| cc _ ?_ c0 <;> first | omega | (simp; omega) | (simp; done) | (intros; simp_all; omega) | (intros; simp_all; done)) ?_
           refine Ag ?_
           refine RK wR [(.bool b10)] ?_
           subst hb10 hb9
           refine Same.of_eq ?_
           simp only [Aj]
           rw [em]
           simp
        ·have eo := Wk (st := (Ad (Ac kind) (l.take i)).1) hck c9
         obtain ⟨b11, hb11⟩ : ∃ b, b = (!decide ((((Di A0 (Ad (Ac kind) (l.take i)).1 d).1).length : Int) = 0)) := ⟨_, rfl⟩
         refine Ae (CS := [(5, ((!b11) = true → (!b11) = true)), (6, (b11 = false → (!b11) = true))]) [137, 138] [3, 6, 11, 18, 19, 139] [] hk0 (vk 4 136 (a := .bool (!decide ((((Di A0 (Ad (Ac kind) (l.take i)).1 d).1).length : Int) = 0))) (b := .bool b11) (Imp.of_eq (by rw [hb11])) <| v0) (by refine cc _ ?_ <| cc _ ?_ c0 <;> first | omega | (simp; omega) | (simp; done) | (intros; simp_all; omega) | (intros; simp_all; done)) ?_
         refine A9 (q := b11 || (!decide (((Di A0 (Ad (Ac kind) (l.take i)).1 d).2) = 70))) (by kernel_rfl) (fun c12 => ?_) (fun c12 => ?_)
         ·subst hb11
          try simp only [Al] at c12
          exfalso; rw [eo] at c12; simp at c12
         ·subst hb11
          try simp only [Al] at c12
          refine Ai ?_
          refine Ae [] [3, 6, 11, 18, 19, 23] [] (hk 2 R2 (Qo (Ad (Ac kind) (l.take i)).1 (Ad (Ac kind) (l.take i)).2 s (by omega)) <| hk0) v0 c0 ?_
          refine Ab ?_
          refine Aa [] [3, 6, 11, 18, 19, 144] ?_
          refine A9 (q := !(s.all fun x => decide (0 ≤ x) && decide (x < ((Ad (Ac kind) (l.take i)).2.length : Int)))) (by kernel_rfl) (fun c13 => ?_) (fun c13 => ?_)
          ·try simp only [Al] at c13
           have em := Q3 (st := (Ad (Ac kind) (l.take i)).1) (s := s) hpl hck c13
           obtain ⟨b12, hb12⟩ : ∃ b, b = (!((Cd A0 (Ad (Ac kind) (l.take i)).1 d s).1)) := ⟨_, rfl⟩
           obtain ⟨b13, hb13⟩ : ∃ b, b = (b12 && (decide (((Cd A0 (Ad (Ac kind) (l.take i)).1 d s).2) = 69))) := ⟨_, rfl⟩
           refine Ae (CS := [(4, (b12 = true → b12 = true)), (5, (b12 = true → b12 = true))]) [148, 149] [8] [] hk0 (vk 3 147 (a := .bool (!((Cd A0 (Ad (Ac kind) (l.take i)).1 d s).1))) (b := .bool b12) (Imp.of_eq (by rw [hb12])) <| vk 6 150 (a := .bool (b12 && (decide (((Cd A0 (Ad (Ac kind) (l.take i)).1 d s).2) = 69)))) (b := .bool b13) (Imp.of_eq (by rw [hb13])) <| v0) (by refine cc _ ?_ <| cc _ ?_ c0 <;> first | omega | (simp; omega) | (simp; done) | (intros; simp_all; omega) | (intros; simp_all; done)) ?_
           refine Ag ?_
           refine RK wR [(.bool b13)] ?_
           subst hb13 hb12
           refine Same.of_eq ?_
           simp only [Aj]
           rw [em]
           simp
          ·try simp only [Al] at c13
           have hsi : ∀ x ∈ s, 0 ≤ x ∧ x < (Ad (Ac kind) (l.take i)).1.all.length := by rw [← hpl]; exact Sr c13
           have em := Q4 (m := A0) hck hsi
           refine Ai ?_
           obtain ⟨b14, hb14⟩ : ∃ b, b = (decide (((Cd A0 (Ad (Ac kind) (l.take i)).1 d s).2) = 0)) := ⟨_, rfl⟩
           obtain ⟨b15, hb15⟩ : ∃ b, b = (b14 && (((Cd A0 (Ad (Ac kind) (l.take i)).1 d s).1) == (B1 A0 (Ad (Ac kind) (l.take i)).1 s d.size d))) := ⟨_, rfl⟩
           refine Ae (CS := [(7, b14 = true → b14 = true ∧ b14 = true ∧ b14 = true), (8, (b14 = true → b14 = true ∧ b14 = true)), (9, (b14 = true → b14 = true))]) [154, 155, 156, 157, 159] [8] [] (hkg 7 b14 It (fun cg => Qn (Ad (Ac kind) (l.take i)).1 (Ad (Ac kind) (l.take i)).2 hat hi s hsi (by omega) d.size d (Nat.le_refl _) (Le hck) (by omega)) <| hk0) (vk 3 153 (a := .bool (decide (((Cd A0 (Ad (Ac kind) (l.take i)).1 d s).2) = 0))) (b := .bool b14) (Imp.of_eq (by rw [hb14])) <| vk 10 160 (a := .bool (b14 && (((Cd A0 (Ad (Ac kind) (l.take i)).1 d s).1) == (B1 A0 (Ad (Ac kind) (l.take i)).1 s d.size d)))) (b := .bool b15) (Imp.of_eq (by rw [hb15])) <| v0) (by refine cc _ ?_ <| cc _ ?_ <| cc _ ?_ c0 <;> first | omega | (simp; omega) | (simp; done) | (intros; simp_all; omega) | (intros; simp_all; done)) ?_
           refine Ag ?_
           refine RK wR [(.bool b15)] ?_
           subst hb15 hb14
           refine Same.of_eq ?_
           simp only [Aj]
           rw [em]
           simp
      ·try simp only [Al] at c7
       have ew := Q13 (st := (Ad (Ac kind) (l.take i)).1) hck c7
       obtain ⟨b16, hb16⟩ : ∃ b, b = (!decide ((((Dl A0 (Ad (Ac kind) (l.take i)).1 d).1).length : Int) = 0)) := ⟨_, rfl⟩
       refine Ae (CS := [(5, ((!b16) = true → (!b16) = true)), (6, (b16 = false → (!b16) = true))]) [116, 117] [3, 6, 11, 16, 17, 18, 19, 118] [] hk0 (vk 4 115 (a := .bool (!decide ((((Dl A0 (Ad (Ac kind) (l.take i)).1 d).1).length : Int) = 0))) (b := .bool b16) (Imp.of_eq (by rw [hb16])) <| v0) (by refine cc _ ?_ <| cc _ ?_ c0 <;> first | omega | (simp; omega) | (simp; done) | (intros; simp_all; omega) | (intros; simp_all; done)) ?_
       refine A9 (q := b16 || (!decide (((Dl A0 (Ad (Ac kind) (l.take i)).1 d).2) = 70))) (by kernel_rfl) (fun c14 => ?_) (fun c14 => ?_)
       ·subst hb16
        try simp only [Al] at c14
        exfalso; rw [ew] at c14; simp at c14
       ·subst hb16
        try simp only [Al] at c14
        refine Ai ?_
        refine Ab ?_
        refine Aa [] [3, 6, 11, 16, 17, 18, 19, 121] ?_
        refine A8 (p := d.kind = 1) (by kernel_rfl) (fun c15 => ?_) (fun c15 => ?_)
        ·exfalso; unfold Ks at c7; simp [c15] at c7
        ·have eo := Wk (st := (Ad (Ac kind) (l.take i)).1) hck c15
         obtain ⟨b17, hb17⟩ : ∃ b, b = (!decide ((((Di A0 (Ad (Ac kind) (l.take i)).1 d).1).length : Int) = 0)) := ⟨_, rfl⟩
         refine Ae (CS := [(5, ((!b17) = true → (!b17) = true)), (6, (b17 = false → (!b17) = true))]) [137, 138] [3, 6, 11, 18, 19, 139] [] hk0 (vk 4 136 (a := .bool (!decide ((((Di A0 (Ad (Ac kind) (l.take i)).1 d).1).length : Int) = 0))) (b := .bool b17) (Imp.of_eq (by rw [hb17])) <| v0) (by refine cc _ ?_ <| cc _ ?_ c0 <;> first | omega | (simp; omega) | (simp; done) | (intros; simp_all; omega) | (intros; simp_all; done)) ?_
         refine A9 (q := b17 || (!decide (((Di A0 (Ad (Ac kind) (l.take i)).1 d).2) = 70))) (by kernel_rfl) (fun c16 => ?_) (fun c16 => ?_)
         ·subst hb17
          try simp only [Al] at c16
          exfalso; rw [eo] at c16; simp at c16
         ·subst hb17
          try simp only [Al] at c16
          refine Ai ?_
          refine Ae [] [3, 6, 11, 18, 19, 23] [] (hk 2 R2 (Qo (Ad (Ac kind) (l.take i)).1 (Ad (Ac kind) (l.take i)).2 s (by omega)) <| hk0) v0 c0 ?_
          refine Ab ?_
          refine Aa [] [3, 6, 11, 18, 19, 144] ?_
          refine A9 (q := !(s.all fun x => decide (0 ≤ x) && decide (x < ((Ad (Ac kind) (l.take i)).2.length : Int)))) (by kernel_rfl) (fun c17 => ?_) (fun c17 => ?_)
          ·try simp only [Al] at c17
           have em := Q3 (st := (Ad (Ac kind) (l.take i)).1) (s := s) hpl hck c17
           obtain ⟨b18, hb18⟩ : ∃ b, b = (!((Cd A0 (Ad (Ac kind) (l.take i)).1 d s).1)) := ⟨_, rfl⟩
           obtain ⟨b19, hb19⟩ : ∃ b, b = (b18 && (decide (((Cd A0 (Ad (Ac kind) (l.take i)).1 d s).2) = 69))) := ⟨_, rfl⟩
           refine Ae (CS := [(4, (b18 = true → b18 = true)), (5, (b18 = true → b18 = true))]) [148, 149] [8] [] hk0 (vk 3 147 (a := .bool (!((Cd A0 (Ad (Ac kind) (l.take i)).1 d s).1))) (b := .bool b18) (Imp.of_eq (by rw [hb18])) <| vk 6 150 (a := .bool (b18 && (decide (((Cd A0 (Ad (Ac kind) (l.take i)).1 d s).2) = 69)))) (b := .bool b19) (Imp.of_eq (by rw [hb19])) <| v0) (by refine cc _ ?_ <| cc _ ?_ c0 <;> first | omega | (simp; omega) | (simp; done) | (intros; simp_all; omega) | (intros; simp_all; done)) ?_
           refine Ag ?_
           refine RK wR [(.bool b19)] ?_
           subst hb19 hb18
           refine Same.of_eq ?_
           simp only [Aj]
           rw [em]
           simp
          ·try simp only [Al] at c17
           have hsi : ∀ x ∈ s, 0 ≤ x ∧ x < (Ad (Ac kind) (l.take i)).1.all.length := by rw [← hpl]; exact Sr c17
           have em := Q4 (m := A0) hck hsi
           refine Ai ?_
           obtain ⟨b20, hb20⟩ : ∃ b, b = (decide (((Cd A0 (Ad (Ac kind) (l.take i)).1 d s).2) = 0)) := ⟨_, rfl⟩
           obtain ⟨b21, hb21⟩ : ∃ b, b = (b20 && (((Cd A0 (Ad (Ac kind) (l.take i)).1 d s).1) == (B1 A0 (Ad (Ac kind) (l.take i)).1 s d.size d))) := ⟨_, rfl⟩
           refine Ae (CS := [(7, b20 = true → b20 = true ∧ b20 = true ∧ b20 = true), (8, (b20 = true → b20 = true ∧ b20 = true)), (9, (b20 = true → b20 = true))]) [154, 155, 156, 157, 159] [8] [] (hkg 7 b20 It (fun cg => Qn (Ad (Ac kind) (l.take i)).1 (Ad (Ac kind) (l.take i)).2 hat hi s hsi (by omega) d.size d (Nat.le_refl _) (Le hck) (by omega)) <| hk0) (vk 3 153 (a := .bool (decide (((Cd A0 (Ad (Ac kind) (l.take i)).1 d s).2) = 0))) (b := .bool b20) (Imp.of_eq (by rw [hb20])) <| vk 10 160 (a := .bool (b20 && (((Cd A0 (Ad (Ac kind) (l.take i)).1 d s).1) == (B1 A0 (Ad (Ac kind) (l.take i)).1 s d.size d)))) (b := .bool b21) (Imp.of_eq (by rw [hb21])) <| v0) (by refine cc _ ?_ <| cc _ ?_ <| cc _ ?_ c0 <;> first | omega | (simp; omega) | (simp; done) | (intros; simp_all; omega) | (intros; simp_all; done)) ?_
           refine Ag ?_
           refine RK wR [(.bool b21)] ?_
           subst hb21 hb20
           refine Same.of_eq ?_
           simp only [Aj]
           rw [em]
           simp
end Sv
end Go.Proofs.YtlfjokcbkopfeaaGreatDoor
end
section
namespace Go.Proofs.YtlfjokcbkopfeaaGreatDoor
open Go Go.RowKit
section
variable {H : Type} {enc : TypeId × Value → H} {P : Program} {W : World}
def Two {α β : Type} (R : α → β → Prop) : List α → List β → Prop
  | [], [] => True
  | a :: l, b :: m => R a b ∧ Two R l m
  | _, _ => False
theorem Two.len {α β : Type} {R : α → β → Prop} : ∀ {l : List α} {m : List β}, Two R l m → m.length = l.length
  | [], [], _ => rfl
  | _ :: _, _ :: _, h => by simp only [List.length_cons, Two.len h.2]
theorem X1f {w : World} {a : Addr} {v : Value} (h : w.cell? a = some v) : a.spot = none := by
  unfold World.cell? at h
  cases hs : a.spot with
  | none => rfl
  | some k => rw [hs] at h; split at h <;> simp at h
theorem Wb {α : Type} {e : TypeId} {sz n : Nat} {a : Addr} (hc : P.cellsOf e = sz) {Q : α → List Value → Prop} {size : α → Nat}
    (each : ∀ cs' y, cs'.length = sz → DataW.trod enc P W 0 (fun _ => true) true n e cs' = some y → ∃ x, Q x cs' ∧ size x ≤ Rows.uptoBulk y.1) :
    ∀ (elems : List (DataW H × List MemPlace)) (i : Nat), (∀ j, j < elems.length → (W.cells? 0 (a.add ((i + j) * sz)) sz).bind (DataW.trod enc P W 0 (fun _ => true) true n e) = elems[j]?) →
      ∃ (l : List α) (css : List (List Value)), l.length = elems.length ∧ Two Q l css ∧ (l.map size).sum ≤ Rows.uptoBulkAll (elems.map (·.1)) ∧ (∀ c ∈ css, c.length = sz) ∧
        ∀ j u, css.flatten[j]? = some u → W.cell? (a.add (i * sz + j)) = some u
  | [], i, _ => ⟨[], [], rfl, trivial, by simp, by simp, by simp⟩
  | y :: r, i, h => by
    have h0 := h 0 (by simp)
    simp only [Nat.add_zero, List.getElem?_cons_zero] at h0
    obtain ⟨cs', h1, h2⟩ := Option.bind_eq_some_iff.1 h0
    obtain ⟨_, hl, hcs⟩ := World.cells?_some h1
    obtain ⟨x, hx, hs⟩ := each cs' y hl h2
    obtain ⟨l, css, e1, e2, e3, e4, e5⟩ := Wb hc each r (i + 1) (fun j hj => by
      have := h (j + 1) (by simpa using hj)
      rw [show i + (j + 1) = i + 1 + j by omega] at this
      simpa using this)
    refine ⟨x :: l, cs' :: css, by simp [e1], ⟨hx, e2⟩, ?_, ?_, ?_⟩
    · simp only [List.map_cons, List.sum_cons, Rows.uptoBulkAll]; omega
    · intro c hc'; rcases List.mem_cons.1 hc' with rfl | hc'
      · exact hl
      · exact e4 c hc'
    · intro j u hu
      rw [List.flatten_cons] at hu
      by_cases hj : j < sz
      · rw [List.getElem?_append_left (by omega)] at hu
        have := hcs j hj
        rw [hu] at this
        rw [← this]
        congr 1
        show a.add (i * sz + j) = (a.add (i * sz)).add j
        unfold Addr.add
        by_cases h1 : i * sz = 0 <;> by_cases h2 : j = 0 <;> simp [h1, h2, Nat.add_assoc]
      · rw [List.getElem?_append_right (by omega), hl] at hu
        have := e5 (j - sz) u hu
        rw [← this]; congr 2
        have : (i + 1) * sz = i * sz + sz := by rw [Nat.add_mul, Nat.one_mul]
        omega
theorem Q4x {α : Type} {t e : TypeId} {sz fuel : Nat} {cs : List Value} {y : DataW H × List MemPlace} (ht : P.underlying t = some (.slice e)) (hc : P.cellsOf e = sz) (hsz : 0 < sz) {Q : α → List Value → Prop} {size : α → Nat}
    (each : ∀ n cs' y, n < fuel → cs'.length = sz → DataW.trod enc P W 0 (fun _ => true) true n e cs' = some y → ∃ x, Q x cs' ∧ size x ≤ Rows.uptoBulk y.1) (h : DataW.trod enc P W 0 (fun _ => true) true fuel t cs = some y) :
    ∃ (v : Value) (l : List α) (css : List (List Value)), cs = [v] ∧ RowIs W v l.length sz css.flatten ∧ Two Q l css ∧ (∀ c ∈ css, c.length = sz) ∧ (l.map size).sum + 1 ≤ Rows.uptoBulk y.1 := by
  rcases DataW.trod_slice ht h with ⟨rfl, rfl⟩ | ⟨a, len, cap, elems, rest, n, hf, rfl, rfl, _, _, _, hlen, hel, _, _⟩
  · exact ⟨_, [], [], rfl, ⟨by simp, .inl ⟨rfl, _, _, rfl⟩⟩, trivial, by simp, by simp [Rows.uptoBulk]⟩
  · subst hc
    obtain ⟨l, css, e1, e2, e3, e4, e5⟩ := Wb (a := a) rfl (each n · · (by omega)) elems 0 (fun j hj => by rw [Nat.zero_add]; exact hel j (by omega))
    have hfl : css.flatten.length = l.length * P.cellsOf e := by
      rw [← e2.len, List.length_flatten]
      clear e5 e2 e1
      induction css with
      | nil => simp
      | cons c r ih => simp only [List.map_cons, List.sum_cons, List.length_cons]; rw [ih (fun c hc => e4 c (by simp [hc])), e4 c (by simp), Nat.add_mul]; omega
    refine ⟨_, l, css, rfl, ⟨hfl, ?_⟩, e2, e4, by simp only [Rows.uptoBulk]; omega⟩
    by_cases hn : l.length = 0
    · exact .inl ⟨hn, some a, cap, by rw [← hlen, ← e1, hn]⟩
    · right
      have hp : 0 < css.flatten.length := by rw [hfl]; exact Nat.mul_pos (by omega) hsz
      have hsp := X1f (a := a) (by have := e5 0 _ (List.getElem?_eq_getElem hp); rw [Nat.zero_mul] at this; exact this)
      obtain ⟨b, o, sp⟩ := a
      simp only at hsp; subst hsp
      refine ⟨b, o, cap, by rw [← hlen, ← e1], fun j u hu => ?_⟩
      have := e5 j u hu
      rw [Nat.zero_mul, Nat.zero_add] at this
      rw [← this]; congr 1
      unfold Addr.add; split <;> simp_all
end
section
variable {H : Type} {enc : TypeId × Value → H} {W : World}
theorem I3 (s : ByteArray) : Value.string s = S s.data.toList := by simp [S]
theorem Q0l (l : List DepT) : (l.map DepT.size).sum = argsSize l := by
  induction l with
  | nil => rfl
  | cons d r ih => simp only [List.map_cons, List.sum_cons, argsSize, ih]
end
end Go.Proofs.YtlfjokcbkopfeaaGreatDoor
end
section
namespace Go.Proofs.YtlfjokcbkopfeaaGreatDoor
open Go Go.RowKit
set_option linter.unusedSimpArgs false
set_option linter.unusedVariables false
namespace Sv
def Eb (W : World) : Nat → Option Obj := fun b => W.heap[b]?
theorem Q61 (W : World) : Fro (Eb W) W := fun _ _ e => e
theorem Z1 {w : World} {b k : Nat} {v : Value} (h : w.cell? ⟨b, k, none⟩ = some v) : ∃ cs e fr, w.heap[b]? = some (.cells cs e fr) ∧ cs[k]? = some v := by
  unfold World.cell? at h
  split at h
  · rename_i c e fr hb
    exact ⟨c, e, fr, hb, by simpa using h⟩
  · cases h
theorem M9 {α : Type} [Inhabited α] {R : α → List Value → Prop} : ∀ {l : List α} {m : List (List Value)}, Two R l m → ∀ {i}, i < l.length → R (Go.Proofs.YtlfjokcbkopfeaaGreatDoor.nth l i) (Go.Proofs.YtlfjokcbkopfeaaGreatDoor.nth m i)
  | [], [], _, i, h => by simp at h
  | _ :: _, [], h, _, _ => h.elim
  | a :: l, b :: m, h, 0, _ => h.1
  | a :: l, b :: m, h, i + 1, hi => M9 (l := l) (m := m) h.2 (by simpa using hi)
section
variable {H : Type} {enc : TypeId × Value → H} {P : Program} {W : World}
theorem Kv {α : Type} [Inhabited α] {t e : TypeId} {sz fuel : Nat} {cs : List Value} {y : DataW H × List MemPlace} (ht : P.underlying t = some (.slice e)) (hc : P.cellsOf e = sz) (hsz : 0 < sz) {f : α → AV} {size : α → Nat} (wrap : List Value → Value)
    (hw : ∀ cs', cs'.length = sz → (∀ c ∈ cs', c.oneCell' = true) → (wrap cs').cells.toList = cs')
    (each : ∀ n cs' y, n < fuel → cs'.length = sz → DataW.trod enc P W 0 (fun _ => true) true n e cs' = some y → ∃ x, (VR (ofF (Eb W)) (f x) (wrap cs') ∧ ∀ c ∈ cs', c.oneCell' = true) ∧ size x ≤ Rows.uptoBulk y.1) (h : DataW.trod enc P W 0 (fun _ => true) true fuel t cs = some y) :
    ∃ (v : Value) (l : List α), cs = [v] ∧ VR (ofF (Eb W)) (Ah sz f l) v ∧ (l.map size).sum + 1 ≤ Rows.uptoBulk y.1 := by
  obtain ⟨v, l, css, rfl, hr, h2, h4, h5⟩ := Q4x (Q := fun x cs' => VR (ofF (Eb W)) (f x) (wrap cs') ∧ ∀ c ∈ cs', c.oneCell' = true) ht hc hsz each h
  refine ⟨v, l, rfl, ?_, h5⟩
  have hshape : v = .slice none 0 0 ∨ ∃ a n c, v = .slice (some a) n c ∧ n ≤ c := by
    rcases DataW.trod_slice ht h with ⟨e, _⟩ | ⟨a, len, cap, _, _, _, _, e, _, _, hle, _⟩
    · left; simpa using e
    · right; exact ⟨a, len, cap, by simpa using e, hle⟩
  unfold Ah
  simp only [VR]
  have hlen := h2.len
  refine ⟨fun i => wrap (nth css i), fun i hi => (M9 h2 hi).1, ?_⟩
  rcases hr.2 with ⟨h0, a, c, rfl⟩ | ⟨b, o, c, rfl, hcell⟩
  · refine .inl ⟨h0, ?_⟩
    rcases hshape with e | ⟨a', n, c', e, _⟩
    · exact .inl e
    · cases e; exact .inr ⟨a', c, rfl⟩
  · have hnc : l.length ≤ c := by
      rcases hshape with e | ⟨a', n, c', e, hle⟩
      · cases e
      · cases e; exact hle
    refine .inr ⟨b, o, c, rfl, hnc, fun i hi => ?_⟩
    have hmem : nth css i ∈ css := Wm (by omega)
    have hwr := hw _ (h4 _ hmem) (M9 h2 hi).2
    have hat : ∀ j, j < sz → css.flatten[i * sz + j]? = (nth css i)[j]? := fun j hj => On (sz := sz) css i j h4 (by omega) hj
    refine ⟨by rw [← Array.length_toList, hwr]; exact h4 _ hmem, ?_⟩
    rw [hwr]
    have hl := h4 _ hmem
    obtain ⟨cs0, e0, fr0, k1, _⟩ := Z1 (hcell (i * sz + 0) _ ((hat 0 hsz).trans (List.getElem?_eq_getElem (show 0 < (nth css i).length by omega))))
    refine ⟨cs0, e0, fr0, k1, fun j u hu => ?_⟩
    have hj : j < sz := by have := (List.getElem?_eq_some_iff.1 hu).1; omega
    obtain ⟨cs1, e1, fr1, k2, k3⟩ := Z1 (hcell (i * sz + j) u ((hat j hj).trans hu))
    rw [k1] at k2; cases k2
    exact ⟨by rw [Nat.add_assoc]; exact k3, (M9 h2 hi).2 u (List.mem_of_getElem? hu)⟩
set_option maxRecDepth 100000 in
theorem Wc : ∀ (fuel : Nat) (cs : List Value) (x : DataW H × List MemPlace), DataW.trod enc Tryz.prog W 0 (fun _ => true) true fuel 25 cs = some x → ∃ d : DepT, (VR (ofF (Eb W)) (Az d) (.agg cs.toArray) ∧ ∀ c ∈ cs, c.oneCell' = true) ∧ d.size ≤ Rows.uptoBulk x.1 := by
  intro fuel
  induction fuel using Nat.strongRecOn with
  | ind fuel ih =>
  intro cs x h
  obtain ⟨xs, n, hf, rfl, hl, hxs, hfs⟩ := DataW.trod_struct Tryz.underlying25 h
  have hl' : cs.length = 5 := hl.trans (by kernel_rfl)
  match cs, hl' with
  | [c0, c1, c2, c3, c4], _ =>
  match xs, hxs with
  | [y0, y1, y2, y3, y4], _ =>
  have g0 : DataW.trod enc Tryz.prog W 0 (fun _ => true) true n 3 (([c0, c1, c2, c3, c4].drop 0).take (Tryz.prog.cellsOf 3)) = some y0 := hfs 0 _ rfl
  have g1 : DataW.trod enc Tryz.prog W 0 (fun _ => true) true n 9 (([c0, c1, c2, c3, c4].drop 1).take (Tryz.prog.cellsOf 9)) = some y1 := hfs 1 _ rfl
  have g2 : DataW.trod enc Tryz.prog W 0 (fun _ => true) true n 3 (([c0, c1, c2, c3, c4].drop 2).take (Tryz.prog.cellsOf 3)) = some y2 := hfs 2 _ rfl
  have g3 : DataW.trod enc Tryz.prog W 0 (fun _ => true) true n 9 (([c0, c1, c2, c3, c4].drop 3).take (Tryz.prog.cellsOf 9)) = some y3 := hfs 3 _ rfl
  have g4 : DataW.trod enc Tryz.prog W 0 (fun _ => true) true n 23 (([c0, c1, c2, c3, c4].drop 4).take (Tryz.prog.cellsOf 23)) = some y4 := hfs 4 _ rfl
  have k1 : Tryz.prog.cellsOf 3 = 1 := by kernel_rfl
  have k2 : Tryz.prog.cellsOf 9 = 1 := by kernel_rfl
  have k3 : Tryz.prog.cellsOf 23 = 1 := by kernel_rfl
  have k4 : Tryz.prog.cellsOf 25 = 5 := by kernel_rfl
  rw [k1] at g0 g2; rw [k2] at g1 g3; rw [k3] at g4
  simp only [List.drop_zero, List.drop_succ_cons, List.take_succ_cons, List.take_zero] at g0 g1 g2 g3 g4
  obtain ⟨k, e0, rfl, _⟩ := DataW.trod_int Tryz.underlying3 g0
  obtain ⟨nm, e1, rfl, _⟩ := DataW.trod_string Tryz.underlying9 g1
  obtain ⟨op, e2, rfl, _⟩ := DataW.trod_int Tryz.underlying3 g2
  obtain ⟨ev, e3, rfl, _⟩ := DataW.trod_string Tryz.underlying9 g3
  obtain ⟨v, l, e4, hr, hb⟩ := Kv (f := Az) (size := DepT.size) Tryz.underlying23 k4 (by omega) (fun cs => .agg cs.toArray) (fun cs' _ _ => by simp [Value.cells]) (fun n' cs' y hn _ hy => ih n' (by omega) cs' y hy) g4
  have hsl : v.oneCell' = true := by
    have hr' := hr
    unfold Ah at hr'
    simp only [VR] at hr'
    obtain ⟨u, _, h0 | ⟨b, o, c, rfl, _⟩⟩ := hr'
    · rcases h0 with ⟨_, rfl | ⟨a, c, rfl⟩⟩ <;> rfl
    · rfl
  simp only [List.cons.injEq, and_true] at e0 e1 e2 e3 e4
  subst e0 e1 e2 e3 e4
  refine ⟨.mk k nm.data.toList op ev.data.toList l, ⟨?_, ?_⟩, ?_⟩
  · refine Zs _ _ _ ?_
    simp only [VR]
    refine ⟨_, .cons (by simp only [VR]; rfl) (.cons (by simp only [VR]; exact I3 nm) (.cons (by simp only [VR]; rfl) (.cons (by simp only [VR]; exact I3 ev) (.cons hr .nil)))), rfl⟩
  · intro c hc
    simp only [List.mem_cons, List.not_mem_nil, or_false] at hc
    rcases hc with rfl | rfl | rfl | rfl | rfl
    · rfl
    · rfl
    · rfl
    · rfl
    · exact hsl
  · rw [Q0l] at hb
    simp only [DepT.size, List.map_cons, List.map_nil, Rows.uptoBulk, Rows.uptoBulkAll]
    omega
set_option maxRecDepth 100000 in
theorem open_depV {r : Reach} {b0 : Nat} {v : Value} {d : DataW H} {p : List MemPlace} (hv : Value.okWide Tryz.prog W r b0 25 v) (h : DataW.Trod enc Tryz.prog W 0 (fun _ => true) true 25 v d p) :
    ∃ t : DepT, VR (ofF (Eb W)) (Az t) v ∧ t.size ≤ Rows.uptoBulk d := by
  obtain ⟨cs, rfl, _⟩ := Go.WideShapes.okWide_struct Tryz.underlying25 hv
  obtain ⟨fuel, hf⟩ := h
  obtain ⟨t, h1, h2⟩ := Wc fuel _ _ hf
  exact ⟨t, by have := h1.1; simpa [Value.cells] using this, h2⟩
end
theorem FnV.calls {P : Program} {f : Nat} {al : List AV} {W : World} {vs : List Value} (h : FnV P f al (.bool true)) (hv : VRl (ofF (Eb W)) al vs) : Calls P f vs.toArray W (Ret fun v w' => v = .bool true ∧ Below W.heap.size W w') :=
  (h (Eb W) W vs (Q61 W) hv).mono fun e w' hh => by
    obtain ⟨v, he, hb, F', _, _, _, k⟩ := hh
    simp only [VR] at k
    exact ⟨v, he, k, hb⟩
end Sv
end Go.Proofs.YtlfjokcbkopfeaaGreatDoor
end
