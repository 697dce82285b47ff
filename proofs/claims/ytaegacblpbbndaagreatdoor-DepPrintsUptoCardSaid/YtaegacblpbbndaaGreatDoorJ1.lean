/- The texts Dep5, DepT, Dep6, Ord, Dep7, Dep8, Dep9, Dep10, Dep11, Dep12, Dep13, Dep14, Read, DepX, Dep15 of the proof, joined. Each says at its theorems what it proves. -/
import Derived.Test.YtaegacblpbbndaaGreatDoorJ0
import Derived.OrdersHeld
import Derived.ScopeJumps
set_option linter.unusedSimpArgs false
set_option linter.unusedVariables false
section
namespace Go.Proofs.YtaegacblpbbndaaGreatDoor
open Go Go.RowKit
theorem indexByte_cons (b : UInt8) (l : List UInt8) (c : UInt8) : Lib.indexByte (b :: l) c = if b = c then 0 else if Lib.indexByte l c = -1 then -1 else Lib.indexByte l c + 1 := by
 rw [show Lib.indexByte (b :: l) c = if b == c then 0 else if Lib.indexByte l c == -1 then -1 else Lib.indexByte l c + 1 from rfl]; simp
def IdxAt (l : List UInt8) (c : UInt8) (i : Nat) : Prop := Lib.indexByte l c = if Lib.indexByte (l.drop i) c = -1 then -1 else Lib.indexByte (l.drop i) c + (i : Int)
theorem idx_start (l : List UInt8) (c : UInt8) : IdxAt l c 0 := by unfold IdxAt; rw [List.drop_zero]; split <;> omega
theorem idx_hit {l : List UInt8} {c : UInt8} {i : Nat} (h : IdxAt l c i) (hi : i < l.length) (hc : byteAt l i = c) : Lib.indexByte l c = (i : Int) := by
 unfold IdxAt at h; rw [drop_byte hi, indexByte_cons, if_pos hc, if_neg (by omega)] at h; omega
theorem idx_end {l : List UInt8} {c : UInt8} {i : Nat} (h : IdxAt l c i) (hi : l.length ≤ i) : Lib.indexByte l c = -1 := by
 unfold IdxAt at h; rw [List.drop_of_length_le hi] at h; simpa [Lib.indexByte] using h
theorem idx_step {l : List UInt8} {c : UInt8} {i : Nat} (h : IdxAt l c i) (hi : i < l.length) (hc : ¬ byteAt l i = c) : IdxAt l c (i + 1) := by
 have hge := Lib.indexByte_ge (l.drop (i + 1)) c
 unfold IdxAt at h ⊢; rw [drop_byte hi, indexByte_cons, if_neg hc] at h
 rw [h]
 by_cases hm : Lib.indexByte (l.drop (i + 1)) c = -1
 ·simp [hm]
 ·rw [if_neg hm, if_neg (by omega), if_neg hm]; omega
set_option maxHeartbeats 2000000 in
set_option maxRecDepth 100000 in
theorem ref03Parse_any (l : List UInt8) (w : World) (hl : l.length ≤ 9223372036854775807) :
  Calls Tryz.prog 45 #[(S l)] w (Ret fun v w' => (∃ ea eb ec, v = .tuple #[.agg #[S ea, S eb, S ec], .int .i64 (evrE l)]) ∧ Below w.heap.size w w') := by
 refine calls_W Tryz.func45 rfl Tryz.ntmps45 ?_
 refine W_seq ?_
 refine W_reg ?_
 refine WO_alloc (v := (.agg #[(S []), (S []), (S [])])) rfl (fun _ => by kernel_rfl) (fun w1 n1 => ?_)
 have e1 : w1.heap[w.heap.size]? = some (.cells #[(S []), (S []), (S [])] 73 (0, 0)) := n1.here
 have z1 := n1.size
 refine WO_pure (v := (.int .i64 0)) rfl rfl ?_
 refine WO_nil ?_
 refine W_seq ?_
 refine W_reg ?_
 refine WO_pure (v := (S l)) rfl rfl ?_
 refine WO_call rfl (by exact en_74) (refmay_any l _ hl) ?_
 rintro _ _ ⟨rfl, rfl⟩
 refine WO_pure (v := (.bool (headB l))) rfl rfl ?_
 refine WO_nil ?_
 refine W_seq ?_
 refine W_seq ?_
 refine W_reg ?_
 refine WO_pure (v := (.bool (headB l))) rfl rfl ?_
 refine WO_pure (v := (.bool (!(headB l)))) rfl rfl ?_
 refine WO_nil ?_
 refine W_cond (t := !(headB l)) rfl (fun c1 => ?_) (fun c1 => ?_)
 ·refine W_seq ?_
  refine W_reg ?_
  refine WO_same (v := (.agg #[(S []), (S []), (S [])])) rfl (by kernel_rfl) ?_
  have p2 := e1
  refine WO_storerow (b := w.heap.size) (o := 0) (c' := #[(S []), (S []), (S [])]) rfl rfl rfl (fun _ => by kernel_rfl) (by simp [Value.oneCell']) p2 (by simp) (fun w2 u2 => ?_)
  have e2 : w2.heap[w.heap.size]? = some (.cells #[(S []), (S []), (S [])] 73 (0, 0)) := u2.here
  have z2 := u2.size
  refine WO_pure (v := (.int .i64 30)) rfl rfl ?_
  refine WO_nil ?_
  refine W_ret ?_
  refine body_retc2 (b := w.heap.size) (c := #[(S []), (S []), (S [])]) rfl rfl Tryz.underlying73 rfl (fun _ => by kernel_rfl) e2 (v1 := (.int .i64 30)) rfl ?_
  have hbel := (u2.below (n1.below (Below.refl w.heap.size w) (Below.refl w.heap.size w).size) (by omega))
  refine ⟨⟨_, _, _, congrArg (fun z => Value.tuple #[.agg #[S _, S _, S _], .int .i64 z]) (?_ : (30 : Int) = evrE l)⟩, hbel⟩
  rw [evrE_head (show headB l = false by simpa using c1)]
 ·refine W_skip ?_
  refine W_seq ?_
  refine W_reg ?_
  have hh : headB l = true := by simpa using c1
  refine WO_alloc (v := (.agg #[(S []), (S []), (S [])])) rfl (fun _ => by kernel_rfl) (fun w3 n3 => ?_)
  have e3 : w3.heap[w1.heap.size]? = some (.cells #[(S []), (S []), (S [])] 73 (0, 0)) := n3.here
  have z3 := n3.size
  refine WO_nil ?_
  refine W_seq ?_
  refine W_seq ?_
  refine W_reg ?_
  refine WO_pure (v := (.int .i64 0)) rfl rfl ?_
  refine WO_nil ?_
  refine W_block ?_
  refine W_loop (fun g σ' w' => ∃ (i : Nat), w3 = w' ∧ σ' 0 = (S l) ∧ σ' 2 = (.pointer (some ⟨w.heap.size, 0, none⟩)) ∧ σ' 5 = (.pointer (some ⟨w1.heap.size, 0, none⟩)) ∧ σ' 6 = (.int .i64 ((i : Int))) ∧ i ≤ l.length ∧ IdxAt l 58 i ∧ g = l.length - i) ?_ ?_
  ·refine ⟨_, 0, rfl, rfl, rfl, rfl, rfl, ?_, ?_, rfl⟩
   ·omega
   ·exact idx_start l 58
  ·rintro g σl1 _ ⟨i, rfl, l1_0, l1_2, l1_5, l1_6, f1_1, f1_2, rfl⟩
   refine W_anchor (d := 0) l1_0 (W_anchor (d := 2) l1_2 (W_anchor (d := 5) l1_5 (W_anchor (d := 6) l1_6 (?_))))
   refine W_seq ?_
   refine W_seq ?_
   refine W_reg ?_
   refine WO_pure (v := (.int .i64 ((i : Int)))) rfl rfl ?_
   refine WO_pure (v := (S l)) rfl rfl ?_
   refine WO_slen (l := l) rfl rfl Tryz.underlying9 ?_
   refine WO_pure (v := (.bool (decide ((i : Int) < (l.length : Int))))) rfl rfl ?_
   refine WO_nil ?_
   refine W_if (p := (i : Int) < (l.length : Int)) rfl (fun c2 => ?_) (fun c2 => ?_)
   ·refine W_skip ?_
    refine W_seq ?_
    refine W_block ?_
    refine W_seq ?_
    refine W_seq ?_
    refine W_reg ?_
    refine WO_pure (v := (S l)) rfl rfl ?_
    refine WO_pure (v := (.int .i64 ((i : Int)))) rfl rfl ?_
    refine WO_sidx (l := l) (j := i) rfl rfl rfl Tryz.underlying9 (by first | rfl | omega) (by first | omega | (simp; done) | (simp; omega)) ?_
    refine WO_pure (v := (.bool (!decide (((byteAt l i).toNat : Int) = 58)))) rfl rfl ?_
    refine WO_nil ?_
    refine W_cond (t := !decide (((byteAt l i).toNat : Int) = 58)) rfl (fun c3 => ?_) (fun c3 => ?_)
    ·refine W_exit ?_
     refine W_reg ?_
     refine WO_pure (v := (.int .i64 ((i : Int)))) rfl rfl ?_
     refine WO_add (b := 1) (v := (i : Int) + 1) rfl rfl rfl (by simp only [kLo, kHi]; omega) ?_
     refine WO_pure (v := (.int .i64 ((i : Int) + 1))) rfl rfl ?_
     refine WO_nil ?_
     refine ⟨_, ?_, i + 1, rfl, rfl, rfl, rfl, rfl, ?_, ?_, rfl⟩
     ·omega
     ·omega
     ·exact idx_step f1_2 (by omega) (fun e => by rw [e] at c3; simp at c3)
    ·refine W_skip ?_
     refine W_seq ?_
     refine W_reg ?_
     have hz : Lib.indexByte l 58 = (i : Int) := idx_hit f1_2 (by omega) (UInt8.toNat_inj.1 (by show _ = 58; simp at c3; omega))
     refine WO_pure (v := (S l)) rfl rfl ?_
     refine WO_pure (v := (.int .i64 ((i : Int)))) rfl rfl ?_
     refine WO_sshi (l := l) (j := i) rfl rfl rfl Tryz.underlying9 (by first | rfl | omega) (by first | omega | (simp; done) | (simp; omega)) ?_
     refine WO_call rfl (by exact en_75) (refdigits_any (l.take i) _ (by rw [List.length_take]; omega)) ?_
     rintro _ _ ⟨rfl, rfl⟩
     refine WO_pure (v := (.bool (digsB (l.take i)))) rfl rfl ?_
     refine WO_nil ?_
     refine W_seq ?_
     refine W_seq ?_
     refine W_reg ?_
     refine WO_pure (v := (.bool (digsB (l.take i)))) rfl rfl ?_
     refine WO_pure (v := (.bool (!(digsB (l.take i))))) rfl rfl ?_
     refine WO_nil ?_
     refine W_cond (t := !(digsB (l.take i))) rfl (fun c4 => ?_) (fun c4 => ?_)
     ·refine W_seq ?_
      refine W_reg ?_
      refine WO_same (v := (.agg #[(S []), (S []), (S [])])) rfl (by kernel_rfl) ?_
      have p4 := (n3.keep e1)
      refine WO_storerow (b := w.heap.size) (o := 0) (c' := #[(S []), (S []), (S [])]) rfl rfl rfl (fun _ => by kernel_rfl) (by simp [Value.oneCell']) p4 (by simp) (fun w4 u4 => ?_)
      have e4 : w4.heap[w.heap.size]? = some (.cells #[(S []), (S []), (S [])] 73 (0, 0)) := u4.here
      have z4 := u4.size
      refine WO_pure (v := (.int .i64 30)) rfl rfl ?_
      refine WO_nil ?_
      refine W_ret ?_
      refine body_retc2 (b := w.heap.size) (c := #[(S []), (S []), (S [])]) rfl rfl Tryz.underlying73 rfl (fun _ => by kernel_rfl) e4 (v1 := (.int .i64 30)) rfl ?_
      have hbel := (u4.below (n3.below (n1.below (Below.refl w.heap.size w) (Below.refl w.heap.size w).size) (n1.below (Below.refl w.heap.size w) (Below.refl w.heap.size w).size).size) (by omega))
      refine ⟨⟨_, _, _, congrArg (fun z => Value.tuple #[.agg #[S _, S _, S _], .int .i64 z]) (?_ : (30 : Int) = evrE l)⟩, hbel⟩
      rw [evrE_bad hz (show digsB (l.take i) = false by simpa using c4)]
     ·refine W_skip ?_
      refine W_seq ?_
      refine W_reg ?_
      have hd : digsB (l.take i) = true := by simpa using c4
      refine WO_pure (v := (S l)) rfl rfl ?_
      refine WO_pure (v := (.int .i64 ((i : Int)))) rfl rfl ?_
      refine WO_sshi (l := l) (j := i) rfl rfl rfl Tryz.underlying9 (by first | rfl | omega) (by first | omega | (simp; done) | (simp; omega)) ?_
      refine WO_same (v := (.pointer (some ⟨w1.heap.size, 0, none⟩))) rfl (by kernel_rfl) ?_
      have p5 := e3
      refine WO_store (b := w1.heap.size) (o := 0) (v := (S ((l.take i)))) rfl rfl rfl (fun _ => by kernel_rfl) rfl p5 (by simp) (fun w5 u5 => ?_)
      have e5 : w5.heap[w1.heap.size]? = some (.cells #[(S ((l.take i))), (S []), (S [])] 73 (0, 0)) := u5.here
      have z5 := u5.size
      refine WO_nil ?_
      refine W_seq ?_
      refine W_reg ?_
      refine WO_pure (v := (S l)) rfl rfl ?_
      refine WO_pure (v := (.int .i64 ((i : Int)))) rfl rfl ?_
      refine WO_add (b := 1) (v := (i : Int) + 1) rfl rfl rfl (by simp only [kLo, kHi]; omega) ?_
      refine WO_sslo (l := l) (i := i + 1) rfl rfl rfl Tryz.underlying9 (by first | rfl | omega) (by first | omega | (simp; done) | (simp; omega)) ?_
      refine WO_pure (v := (S ((l.drop (i + 1))))) rfl rfl ?_
      refine WO_nil ?_
      refine W_exit ?_
      refine W_seq ?_
      refine W_reg ?_
      refine WO_pure (v := (S ((l.drop (i + 1))))) rfl rfl ?_
      refine WO_same (v := (.pointer (some ⟨w1.heap.size, 1, none⟩))) rfl (by kernel_rfl) ?_
      have p6 := e5
      refine WO_store (b := w1.heap.size) (o := 1) (v := (S ((l.drop (i + 1))))) rfl rfl rfl (fun _ => by kernel_rfl) rfl p6 (by simp) (fun w6 u6 => ?_)
      have e6 : w6.heap[w1.heap.size]? = some (.cells #[(S ((l.take i))), (S ((l.drop (i + 1)))), (S [])] 73 (0, 0)) := u6.here
      have z6 := u6.size
      refine WO_nil ?_
      refine W_seq ?_
      refine W_seq ?_
      refine W_reg ?_
      have hdl : (l.drop (i + 1)).length ≤ l.length := by rw [List.length_drop]; omega
      refine WO_pure (v := (S ((l.drop (i + 1))))) rfl rfl ?_
      refine WO_slen (l := (l.drop (i + 1))) rfl rfl Tryz.underlying9 ?_
      refine WO_sub (b := 1) (v := ((l.drop (i + 1)).length : Int) - 1) rfl rfl rfl (by simp only [kLo, kHi]; omega) ?_
      refine WO_pure (v := (.int .i64 (((l.drop (i + 1)).length : Int) - 1))) rfl rfl ?_
      refine WO_nil ?_
      refine W_block ?_
      refine W_loop (fun g σ' w' => ∃ (k : Nat), w6 = w' ∧ σ' 0 = (S ((l.drop (i + 1)))) ∧ σ' 2 = (.pointer (some ⟨w.heap.size, 0, none⟩)) ∧ σ' 5 = (.pointer (some ⟨w1.heap.size, 0, none⟩)) ∧ σ' 8 = (.int .i64 ((k : Int) - 1)) ∧ k ≤ (l.drop (i + 1)).length ∧ lastBefore (l.drop (i + 1)) 45 (l.drop (i + 1)).length = lastBefore (l.drop (i + 1)) 45 k ∧ g = k + 1) ?_ ?_
      ·refine ⟨_, (l.drop (i + 1)).length, rfl, rfl, rfl, rfl, rfl, ?_, ?_, rfl⟩
       ·omega
       ·rfl
      ·rintro g σl2 _ ⟨k, rfl, l2_0, l2_2, l2_5, l2_8, f2_1, f2_2, rfl⟩
       refine W_anchor (d := 0) l2_0 (W_anchor (d := 2) l2_2 (W_anchor (d := 5) l2_5 (W_anchor (d := 8) l2_8 (?_))))
       refine W_seq ?_
       refine W_seq ?_
       refine W_reg ?_
       refine WO_pure (v := (.int .i64 ((k : Int) - 1))) rfl rfl ?_
       refine WO_pure (v := (.bool (decide (0 ≤ ((k : Int) - 1))))) rfl rfl ?_
       refine WO_nil ?_
       refine W_if (p := 0 ≤ ((k : Int) - 1)) rfl (fun c5 => ?_) (fun c5 => ?_)
       ·refine W_skip ?_
        refine W_seq ?_
        refine W_block ?_
        refine W_seq ?_
        refine W_reg ?_
        refine WO_pure (v := (S ((l.drop (i + 1))))) rfl rfl ?_
        refine WO_pure (v := (.int .i64 ((k : Int) - 1))) rfl rfl ?_
        refine WO_sidx (l := (l.drop (i + 1))) (j := (k - 1)) rfl rfl rfl Tryz.underlying9 (by first | rfl | omega) (by first | omega | (simp; done) | (simp; omega)) ?_
        refine WO_pure (v := (.bool (decide (((byteAt (l.drop (i + 1)) (k - 1)).toNat : Int) = 45)))) rfl rfl ?_
        refine WO_nil ?_
        refine W_if (p := ((byteAt (l.drop (i + 1)) (k - 1)).toNat : Int) = 45) rfl (fun c6 => ?_) (fun c6 => ?_)
        ·refine W_seq ?_
         refine W_reg ?_
         refine WO_pure (v := (S ((l.drop (i + 1))))) rfl rfl ?_
         refine WO_pure (v := (.int .i64 ((k : Int) - 1))) rfl rfl ?_
         refine WO_sshi (l := (l.drop (i + 1))) (j := (k - 1)) rfl rfl rfl Tryz.underlying9 (by first | rfl | omega) (by first | omega | (simp; done) | (simp; omega)) ?_
         refine WO_same (v := (.pointer (some ⟨w1.heap.size, 1, none⟩))) rfl (by kernel_rfl) ?_
         have p7 := e6
         refine WO_store (b := w1.heap.size) (o := 1) (v := (S (((l.drop (i + 1)).take (k - 1))))) rfl rfl rfl (fun _ => by kernel_rfl) rfl p7 (by simp) (fun w7 u7 => ?_)
         have e7 : w7.heap[w1.heap.size]? = some (.cells #[(S ((l.take i))), (S (((l.drop (i + 1)).take (k - 1)))), (S [])] 73 (0, 0)) := u7.here
         have z7 := u7.size
         refine WO_nil ?_
         refine W_seq ?_
         refine W_reg ?_
         refine WO_pure (v := (S ((l.drop (i + 1))))) rfl rfl ?_
         refine WO_pure (v := (.int .i64 ((k : Int) - 1))) rfl rfl ?_
         refine WO_add (v := (k : Int)) (hv := by omega) rfl rfl rfl (by simp only [kLo, kHi]; omega) ?_
         refine WO_sslo (l := (l.drop (i + 1))) (i := k) rfl rfl rfl Tryz.underlying9 (by first | rfl | omega) (by first | omega | (simp; done) | (simp; omega)) ?_
         refine WO_same (v := (.pointer (some ⟨w1.heap.size, 2, none⟩))) rfl (by kernel_rfl) ?_
         have p8 := e7
         refine WO_store (b := w1.heap.size) (o := 2) (v := (S (((l.drop (i + 1)).drop k)))) rfl rfl rfl (fun _ => by kernel_rfl) rfl p8 (by simp) (fun w8 u8 => ?_)
         have e8 : w8.heap[w1.heap.size]? = some (.cells #[(S ((l.take i))), (S (((l.drop (i + 1)).take (k - 1)))), (S (((l.drop (i + 1)).drop k)))] 73 (0, 0)) := u8.here
         have z8 := u8.size
         refine WO_nil ?_
         refine W_seq ?_
         refine W_seq ?_
         refine W_reg ?_
         refine WO_same (v := (.pointer (some ⟨w1.heap.size, 2, none⟩))) rfl (by kernel_rfl) ?_
         refine WO_load (a := ⟨w1.heap.size, 2, none⟩) (v := (S (((l.drop (i + 1)).drop k)))) rfl rfl Tryz.underlying9 rfl (cell_of e8 rfl) ?_
         refine WO_seql (l1 := ((l.drop (i + 1)).drop k)) (l2 := []) rfl rfl rfl ?_
         refine WO_nil ?_
         refine W_if (p := ((l.drop (i + 1)).drop k) = []) rfl (fun c7 => ?_) (fun c7 => ?_)
         ·refine W_seq ?_
          refine W_reg ?_
          refine WO_same (v := (.agg #[(S []), (S []), (S [])])) rfl (by kernel_rfl) ?_
          have p9 := (u8.keep (u7.keep (u6.keep (u5.keep (n3.keep e1) (by first | assumption | omega | (simp; omega))) (by first | assumption | omega | (simp; omega))) (by first | assumption | omega | (simp; omega))) (by first | assumption | omega | (simp; omega)))
          refine WO_storerow (b := w.heap.size) (o := 0) (c' := #[(S []), (S []), (S [])]) rfl rfl rfl (fun _ => by kernel_rfl) (by simp [Value.oneCell']) p9 (by simp) (fun w9 u9 => ?_)
          have e9 : w9.heap[w.heap.size]? = some (.cells #[(S []), (S []), (S [])] 73 (0, 0)) := u9.here
          have z9 := u9.size
          refine WO_pure (v := (.int .i64 30)) rfl rfl ?_
          refine WO_nil ?_
          refine W_ret ?_
          refine body_retc2 (b := w.heap.size) (c := #[(S []), (S []), (S [])]) rfl rfl Tryz.underlying73 rfl (fun _ => by kernel_rfl) e9 (v1 := (.int .i64 30)) rfl ?_
          have hbel := (u9.below (u8.below (u7.below (u6.below (u5.below (n3.below (n1.below (Below.refl w.heap.size w) (Below.refl w.heap.size w).size) (n1.below (Below.refl w.heap.size w) (Below.refl w.heap.size w).size).size) (by omega)) (by omega)) (by omega)) (by omega)) (by omega))
          have hy : lastBefore (l.drop (i + 1)) 45 (l.drop (i + 1)).length = ((k - 1 : Nat) : Int) := by rw [f2_2, lastBefore_pos (by omega), if_pos (UInt8.toNat_inj.1 (by show _ = 45; omega))]
          have hk1 : k - 1 + 1 = k := by omega
          refine ⟨⟨_, _, _, congrArg (fun z => Value.tuple #[.agg #[S _, S _, S _], .int .i64 z]) (?_ : (30 : Int) = evrE l)⟩, hbel⟩
          rw [evrE_some hh hz hd, tail_some hy, hk1, decide_eq_true c7]
          rfl
         ·refine W_skip ?_
          refine W_exit ?_
          refine W_seq ?_
          refine W_cut (fun σ' w' => Below w8.heap.size w8 w' ∧ σ' 2 = (.pointer (some ⟨w.heap.size, 0, none⟩)) ∧ σ' 5 = (.pointer (some ⟨w1.heap.size, 0, none⟩)) ∧ σ' 71 = (.bool ((decide (((l.drop (i + 1)).take (k - 1)) = [])) || ((l.drop (i + 1)).contains 58)))) ?_ ?_
          ·refine W_reg ?_
           refine WO_same (v := (.pointer (some ⟨w1.heap.size, 1, none⟩))) rfl (by kernel_rfl) ?_
           refine WO_load (a := ⟨w1.heap.size, 1, none⟩) (v := (S (((l.drop (i + 1)).take (k - 1))))) rfl rfl Tryz.underlying9 rfl (cell_of e8 rfl) ?_
           refine WO_seql (l1 := ((l.drop (i + 1)).take (k - 1))) (l2 := []) rfl rfl rfl ?_
           refine WO_pure (v := (.bool (decide (((l.drop (i + 1)).take (k - 1)) = [])))) rfl rfl ?_
           refine WO_splitp 68 (p := ((l.drop (i + 1)).take (k - 1)) = []) (by exact rfl) (fun c8 => ?_) (fun c8 => ?_)
           ·refine WO_pass rfl ?_
            refine WO_pass rfl ?_
            refine WO_pure (v := (.bool true)) rfl rfl ?_
            refine WO_nil ?_
            exact ⟨(Below.refl w8.heap.size w8), rfl, rfl, (by show ((.bool true) : Value) = (.bool ((decide (((l.drop (i + 1)).take (k - 1)) = [])) || ((l.drop (i + 1)).contains 58))); first | (simp [c8]; done) | (simp [c8]; omega) | (simp_all; done) | (simp_all; omega))⟩
           ·refine WO_pure (v := (S ((l.drop (i + 1))))) rfl rfl ?_
            refine WO_call rfl (by exact en_76) (refin_any 58 (l.drop (i + 1)) _ (by first | omega | (rw [List.length_drop]; omega))) ?_
            rintro _ _ ⟨rfl, rfl⟩
            refine WO_pure (v := (.bool ((l.drop (i + 1)).contains 58))) rfl rfl ?_
            refine WO_nil ?_
            exact ⟨(Below.refl w8.heap.size w8), rfl, rfl, (by show ((.bool ((l.drop (i + 1)).contains 58)) : Value) = (.bool ((decide (((l.drop (i + 1)).take (k - 1)) = [])) || ((l.drop (i + 1)).contains 58))); first | (simp [c8]; done) | (simp [c8]; omega) | (simp_all; done) | (simp_all; omega))⟩
          ·rintro σ1 wc1 ⟨hc1, h1_2, h1_5, h1_71⟩
           have z_wc1 := hc1.size
           refine W_anchor (d := 2) h1_2 (W_anchor (d := 5) h1_5 (W_anchor (d := 71) h1_71 (?_)))
           refine W_cond (t := (decide (((l.drop (i + 1)).take (k - 1)) = [])) || ((l.drop (i + 1)).contains 58)) rfl (fun c9 => ?_) (fun c9 => ?_)
           ·refine W_seq ?_
            refine W_reg ?_
            refine WO_same (v := (.agg #[(S []), (S []), (S [])])) rfl (by kernel_rfl) ?_
            have p10 := (below_keep hc1 (u8.keep (u7.keep (u6.keep (u5.keep (n3.keep e1) (by first | assumption | omega | (simp; omega))) (by first | assumption | omega | (simp; omega))) (by first | assumption | omega | (simp; omega))) (by first | assumption | omega | (simp; omega))))
            refine WO_storerow (b := w.heap.size) (o := 0) (c' := #[(S []), (S []), (S [])]) rfl rfl rfl (fun _ => by kernel_rfl) (by simp [Value.oneCell']) p10 (by simp) (fun w10 u10 => ?_)
            have e10 : w10.heap[w.heap.size]? = some (.cells #[(S []), (S []), (S [])] 73 (0, 0)) := u10.here
            have z10 := u10.size
            refine WO_pure (v := (.int .i64 30)) rfl rfl ?_
            refine WO_nil ?_
            refine W_ret ?_
            refine body_retc2 (b := w.heap.size) (c := #[(S []), (S []), (S [])]) rfl rfl Tryz.underlying73 rfl (fun _ => by kernel_rfl) e10 (v1 := (.int .i64 30)) rfl ?_
            have hbel := (u10.below (below_ext (u8.below (u7.below (u6.below (u5.below (n3.below (n1.below (Below.refl w.heap.size w) (Below.refl w.heap.size w).size) (n1.below (Below.refl w.heap.size w) (Below.refl w.heap.size w).size).size) (by omega)) (by omega)) (by omega)) (by omega)) hc1) (by omega))
            have hy : lastBefore (l.drop (i + 1)) 45 (l.drop (i + 1)).length = ((k - 1 : Nat) : Int) := by rw [f2_2, lastBefore_pos (by omega), if_pos (UInt8.toNat_inj.1 (by show _ = 45; omega))]
            have hk1 : k - 1 + 1 = k := by omega
            refine ⟨⟨_, _, _, congrArg (fun z => Value.tuple #[.agg #[S _, S _, S _], .int .i64 z]) (?_ : (30 : Int) = evrE l)⟩, hbel⟩
            rw [evrE_some hh hz hd, tail_some hy, hk1, decide_eq_false c7, c9]
            rfl
           ·refine W_skip ?_
            refine W_seq ?_
            refine W_reg ?_
            refine WO_loadrow (b := w1.heap.size) (o := 0) (m := 3) (c := #[(S ((l.take i))), (S (((l.drop (i + 1)).take (k - 1)))), (S (((l.drop (i + 1)).drop k)))]) rfl rfl Tryz.underlying73 rfl (fun _ => by kernel_rfl) (below_keep hc1 e8) (by simp) ?_
            refine WO_eq 73 (v' := (.agg #[(S ((l.take i))), (S (((l.drop (i + 1)).take (k - 1)))), (S (((l.drop (i + 1)).drop k)))])) rfl rfl ?_
            have p11 := (below_keep hc1 (u8.keep (u7.keep (u6.keep (u5.keep (n3.keep e1) (by first | assumption | omega | (simp; omega))) (by first | assumption | omega | (simp; omega))) (by first | assumption | omega | (simp; omega))) (by first | assumption | omega | (simp; omega))))
            refine WO_storerow (b := w.heap.size) (o := 0) (c' := #[(S ((l.take i))), (S (((l.drop (i + 1)).take (k - 1)))), (S (((l.drop (i + 1)).drop k)))]) rfl rfl rfl (fun _ => by kernel_rfl) (by simp [Value.oneCell']) p11 (by simp) (fun w11 u11 => ?_)
            have e11 : w11.heap[w.heap.size]? = some (.cells #[(S ((l.take i))), (S (((l.drop (i + 1)).take (k - 1)))), (S (((l.drop (i + 1)).drop k)))] 73 (0, 0)) := u11.here
            have z11 := u11.size
            refine WO_pure (v := (.int .i64 0)) rfl rfl ?_
            refine WO_nil ?_
            refine W_ret ?_
            refine body_retc2 (b := w.heap.size) (c := #[(S ((l.take i))), (S (((l.drop (i + 1)).take (k - 1)))), (S (((l.drop (i + 1)).drop k)))]) rfl rfl Tryz.underlying73 rfl (fun _ => by kernel_rfl) e11 (v1 := (.int .i64 0)) rfl ?_
            have hbel := (u11.below (below_ext (u8.below (u7.below (u6.below (u5.below (n3.below (n1.below (Below.refl w.heap.size w) (Below.refl w.heap.size w).size) (n1.below (Below.refl w.heap.size w) (Below.refl w.heap.size w).size).size) (by omega)) (by omega)) (by omega)) (by omega)) hc1) (by omega))
            have hy : lastBefore (l.drop (i + 1)) 45 (l.drop (i + 1)).length = ((k - 1 : Nat) : Int) := by rw [f2_2, lastBefore_pos (by omega), if_pos (UInt8.toNat_inj.1 (by show _ = 45; omega))]
            have hk1 : k - 1 + 1 = k := by omega
            refine ⟨⟨_, _, _, congrArg (fun z => Value.tuple #[.agg #[S _, S _, S _], .int .i64 z]) (?_ : (0 : Int) = evrE l)⟩, hbel⟩
            rw [evrE_some hh hz hd, tail_some hy, hk1, decide_eq_false c7, c9]
            rfl
        ·refine W_skip ?_
         refine W_reg ?_
         refine WO_pure (v := (.int .i64 ((k : Int) - 1))) rfl rfl ?_
         refine WO_sub (v := ((k - 1 : Nat) : Int) - 1) (hv := by omega) rfl rfl rfl (by simp only [kLo, kHi]; omega) ?_
         refine WO_pure (v := (.int .i64 (((k - 1 : Nat) : Int) - 1))) rfl rfl ?_
         refine WO_nil ?_
         refine ⟨_, ?_, (k - 1), rfl, rfl, rfl, rfl, rfl, ?_, ?_, rfl⟩
         ·omega
         ·omega
         ·rw [f2_2, lastBefore_pos (by omega), if_neg (fun e => c6 (by rw [e]; rfl))]
       ·refine W_exit ?_
        refine W_seq ?_
        refine W_cut (fun σ' w' => Below w6.heap.size w6 w' ∧ σ' 2 = (.pointer (some ⟨w.heap.size, 0, none⟩)) ∧ σ' 5 = (.pointer (some ⟨w1.heap.size, 0, none⟩)) ∧ σ' 71 = (.bool ((decide ((l.drop (i + 1)) = [])) || ((l.drop (i + 1)).contains 58)))) ?_ ?_
        ·refine W_reg ?_
         refine WO_same (v := (.pointer (some ⟨w1.heap.size, 1, none⟩))) rfl (by kernel_rfl) ?_
         refine WO_load (a := ⟨w1.heap.size, 1, none⟩) (v := (S ((l.drop (i + 1))))) rfl rfl Tryz.underlying9 rfl (cell_of e6 rfl) ?_
         refine WO_seql (l1 := (l.drop (i + 1))) (l2 := []) rfl rfl rfl ?_
         refine WO_pure (v := (.bool (decide ((l.drop (i + 1)) = [])))) rfl rfl ?_
         refine WO_splitp 68 (p := (l.drop (i + 1)) = []) (by exact rfl) (fun c10 => ?_) (fun c10 => ?_)
         ·refine WO_pass rfl ?_
          refine WO_pass rfl ?_
          refine WO_pure (v := (.bool true)) rfl rfl ?_
          refine WO_nil ?_
          exact ⟨(Below.refl w6.heap.size w6), rfl, rfl, (by show ((.bool true) : Value) = (.bool ((decide ((l.drop (i + 1)) = [])) || ((l.drop (i + 1)).contains 58))); first | (simp [c10]; done) | (simp [c10]; omega) | (simp_all; done) | (simp_all; omega))⟩
         ·refine WO_pure (v := (S ((l.drop (i + 1))))) rfl rfl ?_
          refine WO_call rfl (by exact en_76) (refin_any 58 (l.drop (i + 1)) _ (by first | omega | (rw [List.length_drop]; omega))) ?_
          rintro _ _ ⟨rfl, rfl⟩
          refine WO_pure (v := (.bool ((l.drop (i + 1)).contains 58))) rfl rfl ?_
          refine WO_nil ?_
          exact ⟨(Below.refl w6.heap.size w6), rfl, rfl, (by show ((.bool ((l.drop (i + 1)).contains 58)) : Value) = (.bool ((decide ((l.drop (i + 1)) = [])) || ((l.drop (i + 1)).contains 58))); first | (simp [c10]; done) | (simp [c10]; omega) | (simp_all; done) | (simp_all; omega))⟩
        ·rintro σ2 wc2 ⟨hc2, h2_2, h2_5, h2_71⟩
         have z_wc2 := hc2.size
         refine W_anchor (d := 2) h2_2 (W_anchor (d := 5) h2_5 (W_anchor (d := 71) h2_71 (?_)))
         refine W_cond (t := (decide ((l.drop (i + 1)) = [])) || ((l.drop (i + 1)).contains 58)) rfl (fun c11 => ?_) (fun c11 => ?_)
         ·refine W_seq ?_
          refine W_reg ?_
          refine WO_same (v := (.agg #[(S []), (S []), (S [])])) rfl (by kernel_rfl) ?_
          have p12 := (below_keep hc2 (u6.keep (u5.keep (n3.keep e1) (by first | assumption | omega | (simp; omega))) (by first | assumption | omega | (simp; omega))))
          refine WO_storerow (b := w.heap.size) (o := 0) (c' := #[(S []), (S []), (S [])]) rfl rfl rfl (fun _ => by kernel_rfl) (by simp [Value.oneCell']) p12 (by simp) (fun w12 u12 => ?_)
          have e12 : w12.heap[w.heap.size]? = some (.cells #[(S []), (S []), (S [])] 73 (0, 0)) := u12.here
          have z12 := u12.size
          refine WO_pure (v := (.int .i64 30)) rfl rfl ?_
          refine WO_nil ?_
          refine W_ret ?_
          refine body_retc2 (b := w.heap.size) (c := #[(S []), (S []), (S [])]) rfl rfl Tryz.underlying73 rfl (fun _ => by kernel_rfl) e12 (v1 := (.int .i64 30)) rfl ?_
          have hbel := (u12.below (below_ext (u6.below (u5.below (n3.below (n1.below (Below.refl w.heap.size w) (Below.refl w.heap.size w).size) (n1.below (Below.refl w.heap.size w) (Below.refl w.heap.size w).size).size) (by omega)) (by omega)) hc2) (by omega))
          have hy : lastBefore (l.drop (i + 1)) 45 (l.drop (i + 1)).length = -1 := by rw [f2_2, show k = 0 by omega]; rfl
          refine ⟨⟨_, _, _, congrArg (fun z => Value.tuple #[.agg #[S _, S _, S _], .int .i64 z]) (?_ : (30 : Int) = evrE l)⟩, hbel⟩
          rw [evrE_some hh hz hd, tail_none hy, c11]
          rfl
         ·refine W_skip ?_
          refine W_seq ?_
          refine W_reg ?_
          refine WO_loadrow (b := w1.heap.size) (o := 0) (m := 3) (c := #[(S ((l.take i))), (S ((l.drop (i + 1)))), (S [])]) rfl rfl Tryz.underlying73 rfl (fun _ => by kernel_rfl) (below_keep hc2 e6) (by simp) ?_
          refine WO_eq 73 (v' := (.agg #[(S ((l.take i))), (S ((l.drop (i + 1)))), (S [])])) rfl rfl ?_
          have p13 := (below_keep hc2 (u6.keep (u5.keep (n3.keep e1) (by first | assumption | omega | (simp; omega))) (by first | assumption | omega | (simp; omega))))
          refine WO_storerow (b := w.heap.size) (o := 0) (c' := #[(S ((l.take i))), (S ((l.drop (i + 1)))), (S [])]) rfl rfl rfl (fun _ => by kernel_rfl) (by simp [Value.oneCell']) p13 (by simp) (fun w13 u13 => ?_)
          have e13 : w13.heap[w.heap.size]? = some (.cells #[(S ((l.take i))), (S ((l.drop (i + 1)))), (S [])] 73 (0, 0)) := u13.here
          have z13 := u13.size
          refine WO_pure (v := (.int .i64 0)) rfl rfl ?_
          refine WO_nil ?_
          refine W_ret ?_
          refine body_retc2 (b := w.heap.size) (c := #[(S ((l.take i))), (S ((l.drop (i + 1)))), (S [])]) rfl rfl Tryz.underlying73 rfl (fun _ => by kernel_rfl) e13 (v1 := (.int .i64 0)) rfl ?_
          have hbel := (u13.below (below_ext (u6.below (u5.below (n3.below (n1.below (Below.refl w.heap.size w) (Below.refl w.heap.size w).size) (n1.below (Below.refl w.heap.size w) (Below.refl w.heap.size w).size).size) (by omega)) (by omega)) hc2) (by omega))
          have hy : lastBefore (l.drop (i + 1)) 45 (l.drop (i + 1)).length = -1 := by rw [f2_2, show k = 0 by omega]; rfl
          refine ⟨⟨_, _, _, congrArg (fun z => Value.tuple #[.agg #[S _, S _, S _], .int .i64 z]) (?_ : (0 : Int) = evrE l)⟩, hbel⟩
          rw [evrE_some hh hz hd, tail_none hy, c11]
          rfl
   ·refine W_exit ?_
    refine W_seq ?_
    refine W_reg ?_
    refine WO_pure (v := (S l)) rfl rfl ?_
    refine WO_same (v := (.pointer (some ⟨w1.heap.size, 1, none⟩))) rfl (by kernel_rfl) ?_
    have p14 := e3
    refine WO_store (b := w1.heap.size) (o := 1) (v := (S l)) rfl rfl rfl (fun _ => by kernel_rfl) rfl p14 (by simp) (fun w14 u14 => ?_)
    have e14 : w14.heap[w1.heap.size]? = some (.cells #[(S []), (S l), (S [])] 73 (0, 0)) := u14.here
    have z14 := u14.size
    refine WO_nil ?_
    refine W_seq ?_
    refine W_seq ?_
    refine W_reg ?_
    have hdl : (l.drop (i + 1)).length ≤ l.length := by rw [List.length_drop]; omega
    refine WO_pure (v := (S l)) rfl rfl ?_
    refine WO_slen (l := l) rfl rfl Tryz.underlying9 ?_
    refine WO_sub (b := 1) (v := (l.length : Int) - 1) rfl rfl rfl (by simp only [kLo, kHi]; omega) ?_
    refine WO_pure (v := (.int .i64 ((l.length : Int) - 1))) rfl rfl ?_
    refine WO_nil ?_
    refine W_block ?_
    refine W_loop (fun g σ' w' => ∃ (k : Nat), w14 = w' ∧ σ' 0 = (S l) ∧ σ' 2 = (.pointer (some ⟨w.heap.size, 0, none⟩)) ∧ σ' 5 = (.pointer (some ⟨w1.heap.size, 0, none⟩)) ∧ σ' 8 = (.int .i64 ((k : Int) - 1)) ∧ k ≤ l.length ∧ lastBefore l 45 l.length = lastBefore l 45 k ∧ g = k + 1) ?_ ?_
    ·refine ⟨_, l.length, rfl, rfl, rfl, rfl, rfl, ?_, ?_, rfl⟩
     ·omega
     ·rfl
    ·rintro g σl3 _ ⟨k, rfl, l3_0, l3_2, l3_5, l3_8, f3_1, f3_2, rfl⟩
     refine W_anchor (d := 0) l3_0 (W_anchor (d := 2) l3_2 (W_anchor (d := 5) l3_5 (W_anchor (d := 8) l3_8 (?_))))
     refine W_seq ?_
     refine W_seq ?_
     refine W_reg ?_
     refine WO_pure (v := (.int .i64 ((k : Int) - 1))) rfl rfl ?_
     refine WO_pure (v := (.bool (decide (0 ≤ ((k : Int) - 1))))) rfl rfl ?_
     refine WO_nil ?_
     refine W_if (p := 0 ≤ ((k : Int) - 1)) rfl (fun c12 => ?_) (fun c12 => ?_)
     ·refine W_skip ?_
      refine W_seq ?_
      refine W_block ?_
      refine W_seq ?_
      refine W_reg ?_
      refine WO_pure (v := (S l)) rfl rfl ?_
      refine WO_pure (v := (.int .i64 ((k : Int) - 1))) rfl rfl ?_
      refine WO_sidx (l := l) (j := (k - 1)) rfl rfl rfl Tryz.underlying9 (by first | rfl | omega) (by first | omega | (simp; done) | (simp; omega)) ?_
      refine WO_pure (v := (.bool (decide (((byteAt l (k - 1)).toNat : Int) = 45)))) rfl rfl ?_
      refine WO_nil ?_
      refine W_if (p := ((byteAt l (k - 1)).toNat : Int) = 45) rfl (fun c13 => ?_) (fun c13 => ?_)
      ·refine W_seq ?_
       refine W_reg ?_
       refine WO_pure (v := (S l)) rfl rfl ?_
       refine WO_pure (v := (.int .i64 ((k : Int) - 1))) rfl rfl ?_
       refine WO_sshi (l := l) (j := (k - 1)) rfl rfl rfl Tryz.underlying9 (by first | rfl | omega) (by first | omega | (simp; done) | (simp; omega)) ?_
       refine WO_same (v := (.pointer (some ⟨w1.heap.size, 1, none⟩))) rfl (by kernel_rfl) ?_
       have p15 := e14
       refine WO_store (b := w1.heap.size) (o := 1) (v := (S ((l.take (k - 1))))) rfl rfl rfl (fun _ => by kernel_rfl) rfl p15 (by simp) (fun w15 u15 => ?_)
       have e15 : w15.heap[w1.heap.size]? = some (.cells #[(S []), (S ((l.take (k - 1)))), (S [])] 73 (0, 0)) := u15.here
       have z15 := u15.size
       refine WO_nil ?_
       refine W_seq ?_
       refine W_reg ?_
       refine WO_pure (v := (S l)) rfl rfl ?_
       refine WO_pure (v := (.int .i64 ((k : Int) - 1))) rfl rfl ?_
       refine WO_add (v := (k : Int)) (hv := by omega) rfl rfl rfl (by simp only [kLo, kHi]; omega) ?_
       refine WO_sslo (l := l) (i := k) rfl rfl rfl Tryz.underlying9 (by first | rfl | omega) (by first | omega | (simp; done) | (simp; omega)) ?_
       refine WO_same (v := (.pointer (some ⟨w1.heap.size, 2, none⟩))) rfl (by kernel_rfl) ?_
       have p16 := e15
       refine WO_store (b := w1.heap.size) (o := 2) (v := (S ((l.drop k)))) rfl rfl rfl (fun _ => by kernel_rfl) rfl p16 (by simp) (fun w16 u16 => ?_)
       have e16 : w16.heap[w1.heap.size]? = some (.cells #[(S []), (S ((l.take (k - 1)))), (S ((l.drop k)))] 73 (0, 0)) := u16.here
       have z16 := u16.size
       refine WO_nil ?_
       refine W_seq ?_
       refine W_seq ?_
       refine W_reg ?_
       refine WO_same (v := (.pointer (some ⟨w1.heap.size, 2, none⟩))) rfl (by kernel_rfl) ?_
       refine WO_load (a := ⟨w1.heap.size, 2, none⟩) (v := (S ((l.drop k)))) rfl rfl Tryz.underlying9 rfl (cell_of e16 rfl) ?_
       refine WO_seql (l1 := (l.drop k)) (l2 := []) rfl rfl rfl ?_
       refine WO_nil ?_
       refine W_if (p := (l.drop k) = []) rfl (fun c14 => ?_) (fun c14 => ?_)
       ·refine W_seq ?_
        refine W_reg ?_
        refine WO_same (v := (.agg #[(S []), (S []), (S [])])) rfl (by kernel_rfl) ?_
        have p17 := (u16.keep (u15.keep (u14.keep (n3.keep e1) (by first | assumption | omega | (simp; omega))) (by first | assumption | omega | (simp; omega))) (by first | assumption | omega | (simp; omega)))
        refine WO_storerow (b := w.heap.size) (o := 0) (c' := #[(S []), (S []), (S [])]) rfl rfl rfl (fun _ => by kernel_rfl) (by simp [Value.oneCell']) p17 (by simp) (fun w17 u17 => ?_)
        have e17 : w17.heap[w.heap.size]? = some (.cells #[(S []), (S []), (S [])] 73 (0, 0)) := u17.here
        have z17 := u17.size
        refine WO_pure (v := (.int .i64 30)) rfl rfl ?_
        refine WO_nil ?_
        refine W_ret ?_
        refine body_retc2 (b := w.heap.size) (c := #[(S []), (S []), (S [])]) rfl rfl Tryz.underlying73 rfl (fun _ => by kernel_rfl) e17 (v1 := (.int .i64 30)) rfl ?_
        have hbel := (u17.below (u16.below (u15.below (u14.below (n3.below (n1.below (Below.refl w.heap.size w) (Below.refl w.heap.size w).size) (n1.below (Below.refl w.heap.size w) (Below.refl w.heap.size w).size).size) (by omega)) (by omega)) (by omega)) (by omega))
        have hz : Lib.indexByte l 58 = -1 := idx_end f1_2 (by omega)
        have hy : lastBefore l 45 l.length = ((k - 1 : Nat) : Int) := by rw [f3_2, lastBefore_pos (by omega), if_pos (UInt8.toNat_inj.1 (by show _ = 45; omega))]
        have hk1 : k - 1 + 1 = k := by omega
        refine ⟨⟨_, _, _, congrArg (fun z => Value.tuple #[.agg #[S _, S _, S _], .int .i64 z]) (?_ : (30 : Int) = evrE l)⟩, hbel⟩
        rw [evrE_none hh hz, tail_some hy, hk1, decide_eq_true c14]
        rfl
       ·refine W_skip ?_
        refine W_exit ?_
        refine W_seq ?_
        refine W_cut (fun σ' w' => Below w16.heap.size w16 w' ∧ σ' 2 = (.pointer (some ⟨w.heap.size, 0, none⟩)) ∧ σ' 5 = (.pointer (some ⟨w1.heap.size, 0, none⟩)) ∧ σ' 71 = (.bool ((decide ((l.take (k - 1)) = [])) || (l.contains 58)))) ?_ ?_
        ·refine W_reg ?_
         refine WO_same (v := (.pointer (some ⟨w1.heap.size, 1, none⟩))) rfl (by kernel_rfl) ?_
         refine WO_load (a := ⟨w1.heap.size, 1, none⟩) (v := (S ((l.take (k - 1))))) rfl rfl Tryz.underlying9 rfl (cell_of e16 rfl) ?_
         refine WO_seql (l1 := (l.take (k - 1))) (l2 := []) rfl rfl rfl ?_
         refine WO_pure (v := (.bool (decide ((l.take (k - 1)) = [])))) rfl rfl ?_
         refine WO_splitp 68 (p := (l.take (k - 1)) = []) (by exact rfl) (fun c15 => ?_) (fun c15 => ?_)
         ·refine WO_pass rfl ?_
          refine WO_pass rfl ?_
          refine WO_pure (v := (.bool true)) rfl rfl ?_
          refine WO_nil ?_
          exact ⟨(Below.refl w16.heap.size w16), rfl, rfl, (by show ((.bool true) : Value) = (.bool ((decide ((l.take (k - 1)) = [])) || (l.contains 58))); first | (simp [c15]; done) | (simp [c15]; omega) | (simp_all; done) | (simp_all; omega))⟩
         ·refine WO_pure (v := (S l)) rfl rfl ?_
          refine WO_call rfl (by exact en_76) (refin_any 58 l _ (by first | omega | (rw [List.length_drop]; omega))) ?_
          rintro _ _ ⟨rfl, rfl⟩
          refine WO_pure (v := (.bool (l.contains 58))) rfl rfl ?_
          refine WO_nil ?_
          exact ⟨(Below.refl w16.heap.size w16), rfl, rfl, (by show ((.bool (l.contains 58)) : Value) = (.bool ((decide ((l.take (k - 1)) = [])) || (l.contains 58))); first | (simp [c15]; done) | (simp [c15]; omega) | (simp_all; done) | (simp_all; omega))⟩
        ·rintro σ3 wc3 ⟨hc3, h3_2, h3_5, h3_71⟩
         have z_wc3 := hc3.size
         refine W_anchor (d := 2) h3_2 (W_anchor (d := 5) h3_5 (W_anchor (d := 71) h3_71 (?_)))
         refine W_cond (t := (decide ((l.take (k - 1)) = [])) || (l.contains 58)) rfl (fun c16 => ?_) (fun c16 => ?_)
         ·refine W_seq ?_
          refine W_reg ?_
          refine WO_same (v := (.agg #[(S []), (S []), (S [])])) rfl (by kernel_rfl) ?_
          have p18 := (below_keep hc3 (u16.keep (u15.keep (u14.keep (n3.keep e1) (by first | assumption | omega | (simp; omega))) (by first | assumption | omega | (simp; omega))) (by first | assumption | omega | (simp; omega))))
          refine WO_storerow (b := w.heap.size) (o := 0) (c' := #[(S []), (S []), (S [])]) rfl rfl rfl (fun _ => by kernel_rfl) (by simp [Value.oneCell']) p18 (by simp) (fun w18 u18 => ?_)
          have e18 : w18.heap[w.heap.size]? = some (.cells #[(S []), (S []), (S [])] 73 (0, 0)) := u18.here
          have z18 := u18.size
          refine WO_pure (v := (.int .i64 30)) rfl rfl ?_
          refine WO_nil ?_
          refine W_ret ?_
          refine body_retc2 (b := w.heap.size) (c := #[(S []), (S []), (S [])]) rfl rfl Tryz.underlying73 rfl (fun _ => by kernel_rfl) e18 (v1 := (.int .i64 30)) rfl ?_
          have hbel := (u18.below (below_ext (u16.below (u15.below (u14.below (n3.below (n1.below (Below.refl w.heap.size w) (Below.refl w.heap.size w).size) (n1.below (Below.refl w.heap.size w) (Below.refl w.heap.size w).size).size) (by omega)) (by omega)) (by omega)) hc3) (by omega))
          have hz : Lib.indexByte l 58 = -1 := idx_end f1_2 (by omega)
          have hy : lastBefore l 45 l.length = ((k - 1 : Nat) : Int) := by rw [f3_2, lastBefore_pos (by omega), if_pos (UInt8.toNat_inj.1 (by show _ = 45; omega))]
          have hk1 : k - 1 + 1 = k := by omega
          refine ⟨⟨_, _, _, congrArg (fun z => Value.tuple #[.agg #[S _, S _, S _], .int .i64 z]) (?_ : (30 : Int) = evrE l)⟩, hbel⟩
          rw [evrE_none hh hz, tail_some hy, hk1, decide_eq_false c14, c16]
          rfl
         ·refine W_skip ?_
          refine W_seq ?_
          refine W_reg ?_
          refine WO_loadrow (b := w1.heap.size) (o := 0) (m := 3) (c := #[(S []), (S ((l.take (k - 1)))), (S ((l.drop k)))]) rfl rfl Tryz.underlying73 rfl (fun _ => by kernel_rfl) (below_keep hc3 e16) (by simp) ?_
          refine WO_eq 73 (v' := (.agg #[(S []), (S ((l.take (k - 1)))), (S ((l.drop k)))])) rfl rfl ?_
          have p19 := (below_keep hc3 (u16.keep (u15.keep (u14.keep (n3.keep e1) (by first | assumption | omega | (simp; omega))) (by first | assumption | omega | (simp; omega))) (by first | assumption | omega | (simp; omega))))
          refine WO_storerow (b := w.heap.size) (o := 0) (c' := #[(S []), (S ((l.take (k - 1)))), (S ((l.drop k)))]) rfl rfl rfl (fun _ => by kernel_rfl) (by simp [Value.oneCell']) p19 (by simp) (fun w19 u19 => ?_)
          have e19 : w19.heap[w.heap.size]? = some (.cells #[(S []), (S ((l.take (k - 1)))), (S ((l.drop k)))] 73 (0, 0)) := u19.here
          have z19 := u19.size
          refine WO_pure (v := (.int .i64 0)) rfl rfl ?_
          refine WO_nil ?_
          refine W_ret ?_
          refine body_retc2 (b := w.heap.size) (c := #[(S []), (S ((l.take (k - 1)))), (S ((l.drop k)))]) rfl rfl Tryz.underlying73 rfl (fun _ => by kernel_rfl) e19 (v1 := (.int .i64 0)) rfl ?_
          have hbel := (u19.below (below_ext (u16.below (u15.below (u14.below (n3.below (n1.below (Below.refl w.heap.size w) (Below.refl w.heap.size w).size) (n1.below (Below.refl w.heap.size w) (Below.refl w.heap.size w).size).size) (by omega)) (by omega)) (by omega)) hc3) (by omega))
          have hz : Lib.indexByte l 58 = -1 := idx_end f1_2 (by omega)
          have hy : lastBefore l 45 l.length = ((k - 1 : Nat) : Int) := by rw [f3_2, lastBefore_pos (by omega), if_pos (UInt8.toNat_inj.1 (by show _ = 45; omega))]
          have hk1 : k - 1 + 1 = k := by omega
          refine ⟨⟨_, _, _, congrArg (fun z => Value.tuple #[.agg #[S _, S _, S _], .int .i64 z]) (?_ : (0 : Int) = evrE l)⟩, hbel⟩
          rw [evrE_none hh hz, tail_some hy, hk1, decide_eq_false c14, c16]
          rfl
      ·refine W_skip ?_
       refine W_reg ?_
       refine WO_pure (v := (.int .i64 ((k : Int) - 1))) rfl rfl ?_
       refine WO_sub (v := ((k - 1 : Nat) : Int) - 1) (hv := by omega) rfl rfl rfl (by simp only [kLo, kHi]; omega) ?_
       refine WO_pure (v := (.int .i64 (((k - 1 : Nat) : Int) - 1))) rfl rfl ?_
       refine WO_nil ?_
       refine ⟨_, ?_, (k - 1), rfl, rfl, rfl, rfl, rfl, ?_, ?_, rfl⟩
       ·omega
       ·omega
       ·rw [f3_2, lastBefore_pos (by omega), if_neg (fun e => c13 (by rw [e]; rfl))]
     ·refine W_exit ?_
      refine W_seq ?_
      refine W_cut (fun σ' w' => Below w14.heap.size w14 w' ∧ σ' 2 = (.pointer (some ⟨w.heap.size, 0, none⟩)) ∧ σ' 5 = (.pointer (some ⟨w1.heap.size, 0, none⟩)) ∧ σ' 71 = (.bool ((decide (l = [])) || (l.contains 58)))) ?_ ?_
      ·refine W_reg ?_
       refine WO_same (v := (.pointer (some ⟨w1.heap.size, 1, none⟩))) rfl (by kernel_rfl) ?_
       refine WO_load (a := ⟨w1.heap.size, 1, none⟩) (v := (S l)) rfl rfl Tryz.underlying9 rfl (cell_of e14 rfl) ?_
       refine WO_seql (l1 := l) (l2 := []) rfl rfl rfl ?_
       refine WO_pure (v := (.bool (decide (l = [])))) rfl rfl ?_
       refine WO_splitp 68 (p := l = []) (by exact rfl) (fun c17 => ?_) (fun c17 => ?_)
       ·refine WO_pass rfl ?_
        refine WO_pass rfl ?_
        refine WO_pure (v := (.bool true)) rfl rfl ?_
        refine WO_nil ?_
        exact ⟨(Below.refl w14.heap.size w14), rfl, rfl, (by show ((.bool true) : Value) = (.bool ((decide (l = [])) || (l.contains 58))); first | (simp [c17]; done) | (simp [c17]; omega) | (simp_all; done) | (simp_all; omega))⟩
       ·refine WO_pure (v := (S l)) rfl rfl ?_
        refine WO_call rfl (by exact en_76) (refin_any 58 l _ (by first | omega | (rw [List.length_drop]; omega))) ?_
        rintro _ _ ⟨rfl, rfl⟩
        refine WO_pure (v := (.bool (l.contains 58))) rfl rfl ?_
        refine WO_nil ?_
        exact ⟨(Below.refl w14.heap.size w14), rfl, rfl, (by show ((.bool (l.contains 58)) : Value) = (.bool ((decide (l = [])) || (l.contains 58))); first | (simp [c17]; done) | (simp [c17]; omega) | (simp_all; done) | (simp_all; omega))⟩
      ·rintro σ4 wc4 ⟨hc4, h4_2, h4_5, h4_71⟩
       have z_wc4 := hc4.size
       refine W_anchor (d := 2) h4_2 (W_anchor (d := 5) h4_5 (W_anchor (d := 71) h4_71 (?_)))
       refine W_cond (t := (decide (l = [])) || (l.contains 58)) rfl (fun c18 => ?_) (fun c18 => ?_)
       ·refine W_seq ?_
        refine W_reg ?_
        refine WO_same (v := (.agg #[(S []), (S []), (S [])])) rfl (by kernel_rfl) ?_
        have p20 := (below_keep hc4 (u14.keep (n3.keep e1) (by first | assumption | omega | (simp; omega))))
        refine WO_storerow (b := w.heap.size) (o := 0) (c' := #[(S []), (S []), (S [])]) rfl rfl rfl (fun _ => by kernel_rfl) (by simp [Value.oneCell']) p20 (by simp) (fun w20 u20 => ?_)
        have e20 : w20.heap[w.heap.size]? = some (.cells #[(S []), (S []), (S [])] 73 (0, 0)) := u20.here
        have z20 := u20.size
        refine WO_pure (v := (.int .i64 30)) rfl rfl ?_
        refine WO_nil ?_
        refine W_ret ?_
        refine body_retc2 (b := w.heap.size) (c := #[(S []), (S []), (S [])]) rfl rfl Tryz.underlying73 rfl (fun _ => by kernel_rfl) e20 (v1 := (.int .i64 30)) rfl ?_
        have hbel := (u20.below (below_ext (u14.below (n3.below (n1.below (Below.refl w.heap.size w) (Below.refl w.heap.size w).size) (n1.below (Below.refl w.heap.size w) (Below.refl w.heap.size w).size).size) (by omega)) hc4) (by omega))
        have hz : Lib.indexByte l 58 = -1 := idx_end f1_2 (by omega)
        have hy : lastBefore l 45 l.length = -1 := by rw [f3_2, show k = 0 by omega]; rfl
        refine ⟨⟨_, _, _, congrArg (fun z => Value.tuple #[.agg #[S _, S _, S _], .int .i64 z]) (?_ : (30 : Int) = evrE l)⟩, hbel⟩
        rw [evrE_none hh hz, tail_none hy, c18]
        rfl
       ·refine W_skip ?_
        refine W_seq ?_
        refine W_reg ?_
        refine WO_loadrow (b := w1.heap.size) (o := 0) (m := 3) (c := #[(S []), (S l), (S [])]) rfl rfl Tryz.underlying73 rfl (fun _ => by kernel_rfl) (below_keep hc4 e14) (by simp) ?_
        refine WO_eq 73 (v' := (.agg #[(S []), (S l), (S [])])) rfl rfl ?_
        have p21 := (below_keep hc4 (u14.keep (n3.keep e1) (by first | assumption | omega | (simp; omega))))
        refine WO_storerow (b := w.heap.size) (o := 0) (c' := #[(S []), (S l), (S [])]) rfl rfl rfl (fun _ => by kernel_rfl) (by simp [Value.oneCell']) p21 (by simp) (fun w21 u21 => ?_)
        have e21 : w21.heap[w.heap.size]? = some (.cells #[(S []), (S l), (S [])] 73 (0, 0)) := u21.here
        have z21 := u21.size
        refine WO_pure (v := (.int .i64 0)) rfl rfl ?_
        refine WO_nil ?_
        refine W_ret ?_
        refine body_retc2 (b := w.heap.size) (c := #[(S []), (S l), (S [])]) rfl rfl Tryz.underlying73 rfl (fun _ => by kernel_rfl) e21 (v1 := (.int .i64 0)) rfl ?_
        have hbel := (u21.below (below_ext (u14.below (n3.below (n1.below (Below.refl w.heap.size w) (Below.refl w.heap.size w).size) (n1.below (Below.refl w.heap.size w) (Below.refl w.heap.size w).size).size) (by omega)) hc4) (by omega))
        have hz : Lib.indexByte l 58 = -1 := idx_end f1_2 (by omega)
        have hy : lastBefore l 45 l.length = -1 := by rw [f3_2, show k = 0 by omega]; rfl
        refine ⟨⟨_, _, _, congrArg (fun z => Value.tuple #[.agg #[S _, S _, S _], .int .i64 z]) (?_ : (0 : Int) = evrE l)⟩, hbel⟩
        rw [evrE_none hh hz, tail_none hy, c18]
        rfl
end Go.Proofs.YtaegacblpbbndaaGreatDoor
end
section
namespace Go.Proofs.YtaegacblpbbndaaGreatDoor
open Go Go.RowKit
inductive DepT where
  | mk (kind : Int) (name : List UInt8) (op : Int) (evr : List UInt8) (args : List DepT)
instance : Inhabited DepT := ⟨.mk 0 [] 0 [] []⟩
mutual
def DepC (w : World) : DepT → List Value → Prop
  | .mk k nm op ev args, cs => ∃ (sv : Value) (css : List (List Value)), cs = [.int .i64 k, S nm, .int .i64 op, S ev, sv] ∧ RowIs w sv args.length 5 css.flatten ∧ ArgsC w args css
def ArgsC (w : World) : List DepT → List (List Value) → Prop
  | [], css => css = []
  | d :: r, css => ∃ (c : List Value) (cr : List (List Value)), css = c :: cr ∧ DepC w d c ∧ ArgsC w r cr
end
mutual
theorem DepC.ext {w w' : World} (hb : Below w.heap.size w w') : ∀ (d : DepT) (cs : List Value), DepC w d cs → DepC w' d cs
  | .mk k nm op ev args, cs, h => by
    unfold DepC at h ⊢
    obtain ⟨sv, css, h1, h2, h3⟩ := h
    exact ⟨sv, css, h1, h2.ext hb, ArgsC.ext hb args css h3⟩
theorem ArgsC.ext {w w' : World} (hb : Below w.heap.size w w') : ∀ (l : List DepT) (css : List (List Value)), ArgsC w l css → ArgsC w' l css
  | [], css, h => by unfold ArgsC at h ⊢; exact h
  | d :: r, css, h => by
    unfold ArgsC at h ⊢
    obtain ⟨c, cr, h1, h2, h3⟩ := h
    exact ⟨c, cr, h1, DepC.ext hb d c h2, ArgsC.ext hb r cr h3⟩
end
theorem DepC.len {w : World} {d : DepT} {cs : List Value} (h : DepC w d cs) : cs.length = 5 := by
  cases d; unfold DepC at h
  obtain ⟨sv, css, h1, _⟩ := h
  rw [h1]; rfl
theorem ArgsC.len {w : World} : ∀ {l : List DepT} {css : List (List Value)}, ArgsC w l css → css.length = l.length
  | [], css, h => by unfold ArgsC at h; rw [h]; rfl
  | d :: r, css, h => by
    unfold ArgsC at h
    obtain ⟨c, cr, h1, _, h3⟩ := h
    rw [h1, List.length_cons, List.length_cons, ArgsC.len h3]
theorem ArgsC.at {w : World} : ∀ {l : List DepT} {css : List (List Value)} (_ : ArgsC w l css) (i : Nat), i < l.length → DepC w (nth l i) (nth css i)
  | [], _, _, _, hi => by simp at hi
  | d :: r, css, h, i, hi => by
    unfold ArgsC at h
    obtain ⟨c, cr, rfl, h2, h3⟩ := h
    cases i with
    | zero => exact h2
    | succ i => exact ArgsC.at h3 i (by simpa using hi)
theorem ArgsC.each {w : World} : ∀ {l : List DepT} {css : List (List Value)} (_ : ArgsC w l css), ∀ c ∈ css, c.length = 5
  | [], css, h => by unfold ArgsC at h; rw [h]; simp
  | d :: r, css, h => by
    unfold ArgsC at h
    obtain ⟨c, cr, rfl, h2, h3⟩ := h
    intro x hx
    rcases List.mem_cons.1 hx with rfl | hx
    · exact h2.len
    · exact ArgsC.each h3 x hx
def DepIs (w : World) (d : DepT) (v : Value) : Prop := ∃ cs, v = .agg cs.toArray ∧ DepC w d cs
theorem DepIs.ext {w w' : World} {d : DepT} {v : Value} (h : DepIs w d v) (hb : Below w.heap.size w w') : DepIs w' d v := by
  obtain ⟨cs, h1, h2⟩ := h; exact ⟨cs, h1, h2.ext hb d cs⟩
end Go.Proofs.YtaegacblpbbndaaGreatDoor
end
section
namespace Go.Proofs.YtaegacblpbbndaaGreatDoor
open Go Go.RowKit
theorem en_26 : Enters Tryz.prog 26 := enters_of Tryz.func26 (by kernel_rfl) rfl
mutual
def DepT.size : DepT → Nat
 | .mk _ nm _ ev args => argsSize args + 1 + nm.length + ev.length
def argsSize : List DepT → Nat
 | [] => 0
 | d :: r => d.size + argsSize r
end
mutual
def partsN : DepT → Nat
 | .mk k _ _ _ args => if k = 1 then 1 else argsParts args
def argsParts : List DepT → Nat
 | [] => 0
 | d :: r => partsN d + argsParts r
end
mutual
theorem partsN_le : ∀ d : DepT, partsN d ≤ d.size
 | .mk k _ _ _ args => by unfold partsN DepT.size; have := argsParts_le args; split <;> omega
theorem argsParts_le : ∀ l : List DepT, argsParts l ≤ argsSize l
 | [] => by simp [argsParts, argsSize]
 | d :: r => by unfold argsParts argsSize; have := partsN_le d; have := argsParts_le r; omega
end
theorem argsParts_take {l : List DepT} {i : Nat} (h : i < l.length) : argsParts (l.take (i + 1)) = argsParts (l.take i) + partsN (nth l i) := by
 induction l generalizing i with
 | nil => simp at h
 | cons d r ih =>
  cases i with
  | zero => simp [argsParts, nth]
  | succ i =>
   have := ih (i := i) (by simpa using h)
   simp only [List.take_succ_cons, argsParts, this]
   have hn : nth (d :: r) (i + 1) = nth r i := rfl
   rw [hn]; omega
theorem argsParts_mono {l : List DepT} {i : Nat} : argsParts (l.take i) ≤ argsParts l := by
 induction l generalizing i with
 | nil => simp
 | cons d r ih =>
  cases i with
  | zero => simp [argsParts]
  | succ i => simp only [List.take_succ_cons, argsParts]; have := ih (i := i); omega
theorem argsSize_nth {l : List DepT} {i : Nat} (h : i < l.length) : (nth l i).size ≤ argsSize l := by
 induction l generalizing i with
 | nil => simp at h
 | cons d r ih =>
  unfold argsSize
  cases i with
  | zero => show d.size ≤ _; omega
  | succ i => have := ih (i := i) (by simpa using h); show (nth r i).size ≤ _; omega
theorem argsSize_len (l : List DepT) : l.length ≤ argsSize l := by
 induction l with
 | nil => simp
 | cons d r ih => unfold argsSize; cases d; unfold DepT.size; simp only [List.length_cons]; omega
theorem dep_all {C : DepT → Prop} (h : ∀ k nm op ev args, (∀ i, i < args.length → C (nth args i)) → C (.mk k nm op ev args)) (d : DepT) : C d := by
 have key : ∀ (n : Nat) (d : DepT), d.size ≤ n → C d := by
  intro n
  induction n with
  | zero => intro d hd; cases d; unfold DepT.size at hd; omega
  | succ n ih =>
   intro d hd
   cases d with
   | mk k nm op ev args =>
    unfold DepT.size at hd
    exact h k nm op ev args fun i hi => ih _ (by have := argsSize_nth hi; omega)
 exact key _ d (Nat.le_refl _)
def PartsSaid (d : DepT) : Prop := ∀ (w : World) (cs : List Value), DepC w d cs → d.size ≤ 4194304 → Calls Tryz.prog 26 #[.agg cs.toArray] w (Ret fun v w' => v = .int .i64 (partsN d : Int) ∧ Below w.heap.size w w')
set_option maxHeartbeats 400000 in
set_option maxRecDepth 100000 in
theorem parts_step (k op : Int) (nm ev : List UInt8) (args : List DepT) (sv : Value) (css : List (List Value)) (w : World) (hr : RowIs w sv args.length 5 css.flatten) (ha : ArgsC w args css) (hs : argsSize args ≤ 4194304) (ih : ∀ i, i < args.length → PartsSaid (nth args i)) :
  Calls Tryz.prog 26 #[(.agg #[(.int .i64 k), (S nm), (.int .i64 op), (S ev), sv])] w (Ret fun v w' => v = .int .i64 (partsN (.mk k nm op ev args) : Int) ∧ Below w.heap.size w w') := by
 have hal := argsSize_len args
 have hap := argsParts_le args
 refine calls_W Tryz.func26 rfl Tryz.ntmps26 ?_
 refine W_seq ?_
 refine W_reg ?_
 refine WO_box (v := (.agg #[(.int .i64 k), (S nm), (.int .i64 op), (S ev), sv])) rfl rfl (fun w1 n1 => ?_)
 have e1 : w1.heap[w.heap.size]? = some (.cells #[(.int .i64 k), (S nm), (.int .i64 op), (S ev), sv] 24 (0, 0)) := n1.here
 have z1 := n1.size
 refine WO_pure (v := (.int .i64 0)) rfl rfl ?_
 refine WO_nil ?_
 refine W_seq ?_
 refine W_seq ?_
 refine W_reg ?_
 refine WO_same (v := (.pointer (some ⟨w.heap.size, 0, none⟩))) rfl (by kernel_rfl) ?_
 refine WO_load (a := ⟨w.heap.size, 0, none⟩) (v := (.int .i64 k)) rfl rfl Tryz.underlying3 rfl (cell_of e1 rfl) ?_
 refine WO_pure (v := (.bool (decide (k = 1)))) rfl rfl ?_
 refine WO_nil ?_
 refine W_if (p := k = 1) rfl (fun c1 => ?_) (fun c1 => ?_)
 ·refine W_seq ?_
  refine W_reg ?_
  refine WO_pure (v := (.int .i64 1)) rfl rfl ?_
  refine WO_nil ?_
  refine W_ret ?_
  refine body_ret1 rfl (v0 := (.int .i64 1)) rfl ?_
  have hbel := (n1.below (Below.refl w.heap.size w) (Below.refl w.heap.size w).size)
  exact ⟨by unfold partsN; rw [if_pos (by omega)]; rfl, hbel⟩
 ·refine W_skip ?_
  refine W_seq ?_
  refine W_reg ?_
  refine WO_pure (v := (.int .i64 0)) rfl rfl ?_
  refine WO_nil ?_
  refine W_seq ?_
  refine W_seq ?_
  refine W_reg ?_
  refine WO_pure (v := (.int .i64 0)) rfl rfl ?_
  refine WO_nil ?_
  refine W_block ?_
  refine W_loop (fun g σ' w' => ∃ (i : Nat), σ' 1 = (.pointer (some ⟨w.heap.size, 0, none⟩)) ∧ σ' 3 = (.int .i64 ((argsParts (args.take i) : Int))) ∧ σ' 4 = (.int .i64 ((i : Int))) ∧ Below w.heap.size w w' ∧ w'.heap[w.heap.size]? = some (.cells #[(.int .i64 k), (S nm), (.int .i64 op), (S ev), sv] 24 (0, 0)) ∧ i ≤ args.length ∧ g = args.length - i) ?_ ?_
  ·refine ⟨_, 0, rfl, rfl, rfl, (n1.below (Below.refl w.heap.size w) (Below.refl w.heap.size w).size), e1, ?_, rfl⟩
   all_goals first | rfl | omega | simp
  ·rintro g σl1 wl1 ⟨i, l1_1, l1_3, l1_4, k1_1, k1_2, f1_1, rfl⟩
   have z_wl1 := k1_1.size
   refine W_anchor (d := 1) l1_1 (W_anchor (d := 3) l1_3 (W_anchor (d := 4) l1_4 (?_)))
   refine W_seq ?_
   refine W_seq ?_
   refine W_reg ?_
   refine WO_pure (v := (.int .i64 ((i : Int)))) rfl rfl ?_
   refine WO_same (v := (.pointer (some ⟨w.heap.size, 4, none⟩))) rfl (by kernel_rfl) ?_
   refine WO_load (a := ⟨w.heap.size, 4, none⟩) (v := sv) rfl rfl Tryz.underlying22 rfl (cell_of k1_2 rfl) ?_
   refine WO_lenrow (v := sv) (m := args.length) (sz := 5) rfl rfl (hr.ext k1_1) Tryz.underlying22 ?_
   refine WO_pure (v := (.bool (decide ((i : Int) < (args.length : Int))))) rfl rfl ?_
   refine WO_nil ?_
   refine W_if (p := (i : Int) < (args.length : Int)) rfl (fun c2 => ?_) (fun c2 => ?_)
   ·refine W_skip ?_
    refine W_seq ?_
    refine W_block ?_
    refine W_reg ?_
    refine WO_pure (v := (.int .i64 ((argsParts (args.take i) : Int)))) rfl rfl ?_
    refine WO_same (v := (.pointer (some ⟨w.heap.size, 4, none⟩))) rfl (by kernel_rfl) ?_
    refine WO_load (a := ⟨w.heap.size, 4, none⟩) (v := sv) rfl rfl Tryz.underlying22 rfl (cell_of k1_2 rfl) ?_
    refine WO_pure (v := (.int .i64 ((i : Int)))) rfl rfl ?_
    refine WO_idxs (v := sv) (css := css) (i := i) rfl rfl rfl (hr.ext k1_1) ha.each ha.len Tryz.underlying22 (fun _ => by kernel_rfl) (by first | rfl | omega) (by first | omega | (simp; done) | (simp; omega)) (fun b2 o2 x2 => ?_)
    refine WO_loads (vs := nth css i) (sz := 5) rfl rfl Tryz.underlying24 rfl (ha.each _ (nth_mem (by rw [ha.len]; omega))) (fun _ => by kernel_rfl) x2 ?_
    refine WO_call rfl (by exact en_26) (ih i (by omega) _ _ (ArgsC.at (ArgsC.ext k1_1 args css ha) i (by omega)) (by have := argsSize_nth (show i < args.length by omega); omega)) ?_
    rintro _ w3 ⟨rfl, h3⟩
    have z_w3 := h3.size
    have hpt := argsParts_take (l := args) (i := i) (by omega)
    have hpm := argsParts_mono (l := args) (i := i + 1)
    refine WO_add (v := (argsParts (args.take (i + 1)) : Int)) (hv := by omega) rfl rfl rfl (by simp only [kLo, kHi]; omega) ?_
    refine WO_pure (v := (.int .i64 ((argsParts (args.take (i + 1)) : Int)))) rfl rfl ?_
    refine WO_nil ?_
    refine W_reg ?_
    refine WO_pure (v := (.int .i64 ((i : Int)))) rfl rfl ?_
    refine WO_add (b := 1) (v := (i : Int) + 1) rfl rfl rfl (by simp only [kLo, kHi]; omega) ?_
    refine WO_pure (v := (.int .i64 ((i : Int) + 1))) rfl rfl ?_
    refine WO_nil ?_
    refine ⟨_, ?_, i + 1, rfl, rfl, rfl, (below_ext k1_1 h3), (below_keep h3 k1_2), ?_, rfl⟩
    all_goals first | omega | assumption
   ·refine W_exit ?_
    refine W_seq ?_
    refine W_reg ?_
    refine WO_pure (v := (.int .i64 ((argsParts (args.take i) : Int)))) rfl rfl ?_
    refine WO_pure (v := (.int .i64 ((argsParts (args.take i) : Int)))) rfl rfl ?_
    refine WO_nil ?_
    refine W_ret ?_
    refine body_ret1 rfl (v0 := (.int .i64 ((argsParts (args.take i) : Int)))) rfl ?_
    have hbel := k1_1
    exact ⟨by unfold partsN; rw [if_neg (by omega), List.take_of_length_le (by omega)], hbel⟩
theorem parts_any (d : DepT) : PartsSaid d := by
 refine dep_all (fun k nm op ev args ih => ?_) d
 intro w cs h hs
 unfold DepC at h
 obtain ⟨sv, css, rfl, hr, ha⟩ := h
 unfold DepT.size at hs
 exact parts_step k op nm ev args sv css w hr ha (by omega) ih
end Go.Proofs.YtaegacblpbbndaaGreatDoor
end
section
namespace Go.Proofs.YtaegacblpbbndaaGreatDoor
open Go Go.RowKit
def WH (P : Program) (n : Nat) (ops : Array Oper) (Q : (Nat → Value) → World → Prop) (B : World) (fuel : Nat) (listed : Array Bool) (σ : Nat → Value) (w : World) : Prop :=
  wpAnyH P .any ops (fun e a w => e = .normal ∧ ∃ σ, a = mk n σ ∧ Q σ w) (fun w' => Below B.heap.size B w') fuel listed (mk n σ) w
section
variable {P : Program} {n : Nat} {σ : Nat → Value} {w : World}
theorem W_orderH {Q : Exit → (Nat → Value) → World → Prop} {id : Nat} {l : List Oper} (hm : P.follows .mixedOrders = true)
    (h : ∀ w', Drew w w' → WH P n l.toArray (Q .normal) w' l.length (Array.replicate l.length false) σ w') : W P n (.region id l.toArray true) Q σ w := by
  unfold W
  refine wp_mono (wp_region_any hm (wpAny_of_held _ _ _ _ (h _ ⟨1, rfl⟩))) ?_
  rintro e a w ⟨rfl, σ', ha, hq⟩
  exact ⟨σ', ha, hq⟩
variable {ops : Array Oper} {Q : (Nat → Value) → World → Prop} {fuel : Nat} {listed : Array Bool} {B : World}
theorem WH_load (hS : Below B.heap.size B w) (i : Nat) {o : Oper} {v : Value} (hi : ops[i]? = some o) (hs : Region.noSelect ops = true) (hf : Region.free .any ops listed i = true) (hr : (Region.ready .any ops listed).contains i = true)
    (hg : gOk ops n σ o.guard = true) (h : ∀ w', Below B.heap.size B w' → (execOp (ev n σ) o).run P w' = .ok (.value v) w') (next : WH P n ops Q B fuel (listed.setIfInBounds i true) (updo σ o.dst v) w) : WH P n ops Q B (fuel + 1) listed σ w := by
  unfold WH
  refine wpAnyH_take hi hs hf hr (fun c a w h => by cases h.1) (.inl ⟨by rw [wanted_mk]; exact hg, fun w' hw' => by rw [mk_eval]; exact h w' hw'⟩) hS ?_
  rw [mk_put]; exact next
theorem WH_take (hS : Below B.heap.size B w) (i : Nat) {o : Oper} {v : Value} (hi : ops[i]? = some o) (hs : Region.noSelect ops = true) (hf : Region.free .any ops listed i = true) (hr : (Region.ready .any ops listed).contains i = true)
    (hg : gOk ops n σ o.guard = true) (h : ∀ w, (execOp (ev n σ) o).run P w = .ok (.value v) w) (next : WH P n ops Q B fuel (listed.setIfInBounds i true) (updo σ o.dst v) w) : WH P n ops Q B (fuel + 1) listed σ w :=
  WH_load hS i hi hs hf hr hg (fun w' _ => h w') next
theorem WH_done (hr : Region.ready .any ops listed = []) (h : Q σ w) : WH P n ops Q B fuel listed σ w := by
  unfold WH
  exact wpAnyH_done hr ⟨rfl, σ, rfl, h⟩ fuel
theorem WH_only (i : Nat) {o : Oper} (hr : Region.ready .any ops listed = [i]) (hi : ops[i]? = some o)
    (h : WO P n ops [o] (fun e σ' w' => e = .normal ∧ Below B.heap.size B w' ∧ WH P n ops Q B fuel (listed.setIfInBounds i true) σ' w') σ w) : WH P n ops Q B (fuel + 1) listed σ w := by
  unfold WH
  refine wpAnyH_all hr (by simp) fun j hj => ?_
  obtain rfl : j = i := by simpa using hj
  unfold WO wpList at h
  unfold wpOp
  simp only [hi]
  have ho : ¬ LetsOut (lift n fun e σ' w' => e = .normal ∧ Below B.heap.size B w' ∧ WH P n ops Q B fuel (listed.setIfInBounds j true) σ' w') := by
    rintro ⟨a, w, σ', _, h, _⟩; cases h
  have hk : ∀ a w', wpList P ops (lift n fun e σ' w' => e = .normal ∧ Below B.heap.size B w' ∧ WH P n ops Q B fuel (listed.setIfInBounds j true) σ' w') [] a w' →
      (Below B.heap.size B w' ∧ wpAnyH P .any ops (fun e a w => e = .normal ∧ ∃ σ, a = mk n σ ∧ Q σ w) (fun w' => Below B.heap.size B w') fuel (listed.setIfInBounds j true) a w') := by
    rintro a w' ⟨σ', rfl, _, hb, hx⟩; exact ⟨hb, hx⟩
  split at h
  · rename_i hw
    rw [if_pos hw]
    rcases h with h | ⟨_, h⟩
    · exact .inl (wp_two hk (fun c a w hc => by obtain ⟨_, _, hc, _⟩ := hc; cases hc) ho h)
    · exact absurd h ho
  · rename_i hw
    rw [if_neg hw]; exact hk _ _ h
theorem WH_idxs (hS : Below B.heap.size B w) (j : Nat) {css : List (List Value)} {sz : Nat} {t e : TypeId} {x y : Operand} {v : Value} {m i : Nat} {k : IntKind} {a : Int} {dst : Option Tmp} {ty : TypeId} {ps : String} {af : Array Edge} {g : Option (Nat × Bool)}
    (hi' : ops[j]? = some ⟨dst, .indexAddr t x y, ty, ps, af, g⟩) (hs' : Region.noSelect ops = true) (hf : Region.free .any ops listed j = true) (hr' : (Region.ready .any ops listed).contains j = true)
    (hg : gOk ops n σ g = true) (hx : ev n σ x = v) (hy : ev n σ y = .int k a)
    (hr : RowIs B v m sz css.flatten) (he : ∀ c ∈ css, c.length = sz) (hl : css.length = m) (ht : P.underlying t = some (.slice e)) (hs : ∀ w, (sizeOf e).run P w = .ok sz w) (ha : a = (i : Int)) (hi : i < m)
    (next : ∀ b o, (∀ j u, (nth css i)[j]? = some u → B.cell? ⟨b, o + j, none⟩ = some u) → WH P n ops Q B fuel (listed.setIfInBounds j true) (updo σ dst (.pointer (some ⟨b, o, none⟩))) w) : WH P n ops Q B (fuel + 1) listed σ w := by
  subst ha
  rcases hr.2 with ⟨rfl, _⟩ | ⟨b, o, c, rfl, hc⟩
  · omega
  · have hadd : (⟨b, o, none⟩ : Addr).add (i * sz) = ⟨b, o + i * sz, none⟩ := by unfold Addr.add; split <;> simp_all
    refine WH_take hS j hi' hs' hf hr' hg (v := .pointer (some ⟨b, o + i * sz, none⟩)) (fun w => ?_) (next b (o + i * sz) fun j u hu => ?_)
    · have h1 : (0 : Int) ≤ (i : Int) ∧ (i : Int) < (m : Int) := by omega
      simp [execOp, Instr.indexAt, asIntOf, hx, hy, run_underlying ht, hs, h1, hi, hadd, go_sem]
    · have hj : j < sz := by rw [← he _ (nth_mem (by omega : i < css.length))]; exact (List.getElem?_eq_some_iff.1 hu).1
      rw [Nat.add_assoc]
      exact hc _ u (by rw [flat_at css i j he (by omega) hj]; exact hu)
theorem below_cell {w w' : World} (h : Below w.heap.size w w') {b o : Nat} {v : Value} (hc : w.cell? ⟨b, o, none⟩ = some v) : w'.cell? ⟨b, o, none⟩ = some v := by
  rw [h.cell (p := ⟨b, o, none⟩) (cell_lt hc)]; exact hc
variable {dst : Option Tmp} {ty : TypeId} {ps : String} {af : Array Edge} {g : Option (Nat × Bool)}
theorem R_loads {t : TypeId} {d : TypeDesc} {x : Operand} {b o sz : Nat} {vs : List Value} (hx : ev n σ x = .pointer (some ⟨b, o, none⟩)) (ht : P.underlying t = some d) (hd : plainD d = false)
    (hl : vs.length = sz) (hs : ∀ w, (sizeOf t).run P w = .ok sz w) (hc : ∀ j u, vs[j]? = some u → w.cell? ⟨b, o + j, none⟩ = some u) :
    (execOp (ev n σ) ⟨dst, .load t x, ty, ps, af, g⟩).run P w = .ok (.value (.agg vs.toArray)) w := by
  have ha : (isAgg t).run P w = .ok true w := by cases d <;> simp_all [isAgg, run_underlying ht, plainD]
  have hr := run_loadCells_list (P := P) w ⟨b, o, none⟩ vs (fun j v hj => by
    have hadd : (⟨b, o, none⟩ : Addr).add j = ⟨b, o + j, none⟩ := by unfold Addr.add; split <;> simp_all
    rw [hadd]; exact hc j v hj)
  simp only [loadCells] at hr
  subst hl
  simp [execOp, Instr.loadAt, Instr.sureAddr, hx, loadVar, ha, hs, loadCells, hr, go_sem]
end
theorem heap_ne {w : World} {a b : Nat} {c c' : Array Value} {e e' : TypeId} {f f' : Nat × Nat} (h : w.heap[a]? = some (.cells c e f)) (k : w.heap[b]? = some (.cells c' e' f')) (hne : e ≠ e') : a ≠ b := by
  rintro rfl; rw [h] at k; cases k; exact hne rfl
theorem oneCell_is {w : World} {v : Value} {n sz : Nat} {xs : List Value} (h : RowIs w v n sz xs) : v.oneCell' = true := by
  rcases h.2 with ⟨_, a, c, rfl⟩ | ⟨b, o, c, rfl, _⟩ <;> rfl
theorem grown_refl (w : World) (r : Option Nat) : w.grownBy w r := ⟨rfl, rfl, rfl, Nat.le_refl _, fun _ _ _ => rfl⟩
theorem grown_new {w w1 w2 : World} {r : Option Nat} {o : Obj} (g : w.grownBy w1 r) (n : New w1 w2 o) : w.grownBy w2 r := by
  have e := n.ext
  exact ⟨e.os.trans g.os, e.tape.trans g.tape, e.output.trans g.output, Nat.le_trans g.size e.size, fun k hk hr => (e.block k (Nat.lt_of_lt_of_le hk g.size)).trans (g.block k hk hr)⟩
theorem grown_bel {w w1 w2 : World} {r : Option Nat} (g : w.grownBy w1 r) (e : Below w1.heap.size w1 w2) : w.grownBy w2 r :=
  ⟨e.os.trans g.os, e.tape.trans g.tape, e.output.trans g.output, Nat.le_trans g.size e.size, fun k hk hr => (e.block k (Nat.lt_of_lt_of_le hk g.size)).trans (g.block k hk hr)⟩
theorem grown_upd {w w1 w2 : World} {r : Option Nat} {b : Nat} {o : Obj} (g : w.grownBy w1 r) (u : Upd w1 w2 b o) (h : w.heap.size ≤ b ∨ r = some b) : w.grownBy w2 r :=
  ⟨u.os.trans g.os, u.tape.trans g.tape, u.output.trans g.output, by rw [u.size]; exact g.size, fun k hk hr => by
    rw [u.block k (by rcases h with h | rfl; · omega
                      · exact fun e => hr (by rw [e]))]
    exact g.block k hk hr⟩
theorem grown_drew {w w1 w2 : World} {r : Option Nat} (g : w.grownBy w1 r) (d : Drew w1 w2) : w.grownBy w2 r := by
  obtain ⟨k, rfl⟩ := d
  exact ⟨g.os, g.tape, g.output, g.size, g.block⟩
theorem W_scopeJ {P : Program} {n : Nat} {Q : Exit → (Nat → Value) → World → Prop} {σ : Nat → Value} {w : World} {c rest : Code} (l : Nat) (J : (Nat → Value) → World → Prop) (hf : findLabel c l = some rest)
    (first : W P n c (jumpQ l J Q) σ w) (pass : ∀ σ w, J σ w → W P n rest (noGotoQ Q) σ w) : W P n (.scope c) Q σ w := by
  unfold W at *
  refine wp_scope_jumps l (fun a w => ∃ σ, a = mk n σ ∧ J σ w) (fun _ _ => 0) hf (wp_mono first ?_) ?_
  · rintro e a w ⟨σ', rfl, q⟩
    cases e with
    | goto l' => exact ⟨q.1, σ', rfl, q.2⟩
    | _ => exact ⟨σ', rfl, q⟩
  · rintro a w ⟨σ', rfl, hJ⟩
    refine wp_mono (pass σ' w hJ) ?_
    rintro e a w ⟨σ'', rfl, q⟩
    cases e with
    | goto l' => exact q.elim
    | _ => exact ⟨σ'', rfl, q⟩
theorem WX_two {P : Program} {n : Nat} {σ : Nat → Value} {w : World} {ops : Array Oper} {Q : (Nat → Value) → World → Prop} {fuel : Nat} {listed : Array Bool} (i j : Nat) {oi oj : Oper} (hr : Region.ready .any ops listed = [i, j]) (hi : ops[i]? = some oi) (hj : ops[j]? = some oj)
    (h1 : WO P n ops [oi] (fun e σ' w' => e = .normal ∧ WX P n ops Q fuel (listed.setIfInBounds i true) σ' w') σ w)
    (h2 : WO P n ops [oj] (fun e σ' w' => e = .normal ∧ WX P n ops Q fuel (listed.setIfInBounds j true) σ' w') σ w) : WX P n ops Q (fuel + 1) listed σ w := by
  have key : ∀ {k : Nat} {o : Oper}, ops[k]? = some o → WO P n ops [o] (fun e σ' w' => e = .normal ∧ WX P n ops Q fuel (listed.setIfInBounds k true) σ' w') σ w →
      wpOp P ops (fun e a w => e = .normal ∧ ∃ σ, a = mk n σ ∧ Q σ w) k (wpAny P .any ops (fun e a w => e = .normal ∧ ∃ σ, a = mk n σ ∧ Q σ w) fuel (listed.setIfInBounds k true)) (mk n σ) w := by
    intro k o hk h
    unfold WO wpList at h
    unfold wpOp
    simp only [hk]
    have ho : ¬ LetsOut (lift n fun e σ' w' => e = .normal ∧ WX P n ops Q fuel (listed.setIfInBounds k true) σ' w') := by
      rintro ⟨a, w, σ', _, h, _⟩; cases h
    have hkk : ∀ a w', wpList P ops (lift n fun e σ' w' => e = .normal ∧ WX P n ops Q fuel (listed.setIfInBounds k true) σ' w') [] a w' →
        wpAny P .any ops (fun e a w => e = .normal ∧ ∃ σ, a = mk n σ ∧ Q σ w) fuel (listed.setIfInBounds k true) a w' := by
      rintro a w' ⟨σ', rfl, _, hx⟩; unfold WX at hx; exact hx
    split at h
    · rename_i hw
      rw [if_pos hw]
      rcases h with h | ⟨_, h⟩
      · exact .inl (wp_two hkk (fun c a w hc => by obtain ⟨_, _, hc, _⟩ := hc; cases hc) ho h)
      · exact absurd h ho
    · rename_i hw
      rw [if_neg hw]; exact hkk _ _ h
  unfold WX
  refine wpAny_all hr (by simp) fun k hk => ?_
  rcases List.mem_cons.1 hk with rfl | hk
  · exact key hi h1
  · obtain rfl : k = j := by simpa using hk
    exact key hj h2
attribute [irreducible] WH
end Go.Proofs.YtaegacblpbbndaaGreatDoor
end
section
namespace Go.Proofs.YtaegacblpbbndaaGreatDoor
open Go Go.RowKit
theorem en_11 : Enters Tryz.prog 11 := enters_of Tryz.func11 (by kernel_rfl) rfl
mutual
def sameB : DepT → DepT → Bool
 | .mk k nm op ev args, .mk k' nm' op' ev' args' => decide (k = k' ∧ nm = nm' ∧ op = op' ∧ ev = ev') && sameL args args'
def sameL : List DepT → List DepT → Bool
 | [], [] => true
 | a :: r, b :: s => sameB a b && sameL r s
 | _, _ => false
end
theorem sameL_len : ∀ {l m : List DepT}, sameL l m = true → l.length = m.length
 | [], [], _ => rfl
 | [], _ :: _, h => by simp [sameL] at h
 | _ :: _, [], h => by simp [sameL] at h
 | a :: r, b :: s, h => by simp only [sameL, Bool.and_eq_true] at h; simp [sameL_len h.2]
theorem sameL_step {l m : List DepT} {i : Nat} (h : i < l.length) (h' : i < m.length) : sameL (l.drop i) (m.drop i) = (sameB (nth l i) (nth m i) && sameL (l.drop (i + 1)) (m.drop (i + 1))) := by
 rw [drop_nth h, drop_nth h', sameL]
mutual
theorem sameB_eq : ∀ (a b : DepT), sameB a b = true ↔ a = b
 | .mk k nm op ev args, .mk k' nm' op' ev' args' => by
  unfold sameB
  simp only [Bool.and_eq_true, decide_eq_true_eq, sameL_eq args args', DepT.mk.injEq]
  constructor
  ·rintro ⟨⟨a, b, c, d⟩, e⟩; exact ⟨a, b, c, d, e⟩
  ·rintro ⟨a, b, c, d, e⟩; exact ⟨⟨a, b, c, d⟩, e⟩
theorem sameL_eq : ∀ (l m : List DepT), sameL l m = true ↔ l = m
 | [], [] => by simp [sameL]
 | [], _ :: _ => by simp [sameL]
 | _ :: _, [] => by simp [sameL]
 | a :: r, b :: s => by simp only [sameL, Bool.and_eq_true, sameB_eq a b, sameL_eq r s, List.cons.injEq]
end
theorem same_no {k op k' op' : Int} {nm ev nm' ev' : List UInt8} {args args' : List DepT} (h : (!decide (k = k' ∧ nm = nm' ∧ op = op' ∧ ev = ev' ∧ args.length = args'.length)) = true) : sameB (.mk k nm op ev args) (.mk k' nm' op' ev' args') = false := by
 rw [Bool.eq_false_iff]; intro hs
 unfold sameB at hs
 simp only [Bool.and_eq_true, decide_eq_true_eq] at hs
 obtain ⟨⟨h1, h2, h3, h4⟩, h5⟩ := hs
 have h6 := sameL_len h5
 simp only [Bool.not_eq_true', decide_eq_false_iff_not] at h
 exact h ⟨h1, h2, h3, h4, h6⟩
theorem same_yes {k op k' op' : Int} {nm ev nm' ev' : List UInt8} {args args' : List DepT} (h : (!decide (k = k' ∧ nm = nm' ∧ op = op' ∧ ev = ev' ∧ args.length = args'.length)) = false) : sameB (.mk k nm op ev args) (.mk k' nm' op' ev' args') = sameL args args' := by
 simp only [Bool.not_eq_false', decide_eq_true_eq] at h
 obtain ⟨h1, h2, h3, h4, _⟩ := h
 unfold sameB
 rw [decide_eq_true (⟨h1, h2, h3, h4⟩ : k = k' ∧ nm = nm' ∧ op = op' ∧ ev = ev'), Bool.true_and]
def SameSaid (d d' : DepT) : Prop := ∀ (w : World) (cs cs' : List Value), DepC w d cs → DepC w d' cs' → d.size ≤ 4194304 → d'.size ≤ 4194304 → Calls Tryz.prog 11 #[.agg cs.toArray, .agg cs'.toArray] w (Ret fun v w' => v = .bool (sameB d d') ∧ Below w.heap.size w w')
set_option maxHeartbeats 1000000 in
set_option maxRecDepth 100000 in
theorem same_step (k op : Int) (nm ev : List UInt8) (args : List DepT) (sv : Value) (css : List (List Value)) (k' op' : Int) (nm' ev' : List UInt8) (args' : List DepT) (sv' : Value) (css' : List (List Value)) (w : World) (hr : RowIs w sv args.length 5 css.flatten) (ha : ArgsC w args css) (hr' : RowIs w sv' args'.length 5 css'.flatten) (ha' : ArgsC w args' css') (hs : argsSize args ≤ 4194304) (hs' : argsSize args' ≤ 4194304) (ih : ∀ i j, i < args.length → j < args'.length → SameSaid (nth args i) (nth args' j)) :
  Calls Tryz.prog 11 #[(.agg #[(.int .i64 k), (S nm), (.int .i64 op), (S ev), sv]), (.agg #[(.int .i64 (k')), (S (nm')), (.int .i64 (op')), (S (ev')), (sv')])] w (Ret fun v w' => v = .bool (sameB (.mk k nm op ev args) (.mk k' nm' op' ev' args')) ∧ Below w.heap.size w w') := by
 have hal := argsSize_len args
 have hal' := argsSize_len args'
 refine calls_W Tryz.func11 rfl Tryz.ntmps11 ?_
 refine W_seq ?_
 refine W_reg ?_
 refine WO_box (v := (.agg #[(.int .i64 k), (S nm), (.int .i64 op), (S ev), sv])) rfl rfl (fun w1 n1 => ?_)
 have e1 : w1.heap[w.heap.size]? = some (.cells #[(.int .i64 k), (S nm), (.int .i64 op), (S ev), sv] 24 (0, 0)) := n1.here
 have z1 := n1.size
 refine WO_box (v := (.agg #[(.int .i64 (k')), (S (nm')), (.int .i64 (op')), (S (ev')), (sv')])) rfl rfl (fun w2 n2 => ?_)
 have e2 : w2.heap[w1.heap.size]? = some (.cells #[(.int .i64 (k')), (S (nm')), (.int .i64 (op')), (S (ev')), (sv')] 24 (0, 0)) := n2.here
 have z2 := n2.size
 refine WO_pure (v := (.bool false)) rfl rfl ?_
 refine WO_nil ?_
 refine W_seq ?_
 refine W_cut (fun σ' w' => w2 = w' ∧ σ' 2 = (.pointer (some ⟨w.heap.size, 0, none⟩)) ∧ σ' 3 = (.pointer (some ⟨w1.heap.size, 0, none⟩)) ∧ σ' 41 = (.bool (!decide (k = k' ∧ nm = nm' ∧ op = op' ∧ ev = ev' ∧ args.length = args'.length)))) ?_ ?_
 ·refine W_reg ?_
  refine WO_same (v := (.pointer (some ⟨w.heap.size, 0, none⟩))) rfl (by kernel_rfl) ?_
  refine WO_load (a := ⟨w.heap.size, 0, none⟩) (v := (.int .i64 k)) rfl rfl Tryz.underlying3 rfl (cell_of (n2.keep e1) rfl) ?_
  refine WO_same (v := (.pointer (some ⟨w1.heap.size, 0, none⟩))) rfl (by kernel_rfl) ?_
  refine WO_load (a := ⟨w1.heap.size, 0, none⟩) (v := (.int .i64 (k'))) rfl rfl Tryz.underlying3 rfl (cell_of e2 rfl) ?_
  refine WO_pure (v := (.bool (!decide (k = k')))) rfl rfl ?_
  refine WO_pure (v := (.bool (!decide (k = k')))) rfl rfl ?_
  refine WO_split 12 (b := !decide (k = k')) (by exact rfl) (fun c1 => ?_) (fun c1 => ?_)
  ·refine WO_pass rfl ?_
   refine WO_pass rfl ?_
   refine WO_pass rfl ?_
   refine WO_pass rfl ?_
   refine WO_pass rfl ?_
   refine WO_pure (v := (.bool true)) rfl rfl ?_
   refine WO_pure (v := (.bool true)) rfl rfl ?_
   refine WO_pass rfl ?_
   refine WO_pass rfl ?_
   refine WO_pass rfl ?_
   refine WO_pass rfl ?_
   refine WO_pass rfl ?_
   refine WO_pure (v := (.bool true)) rfl rfl ?_
   refine WO_pure (v := (.bool true)) rfl rfl ?_
   refine WO_pass rfl ?_
   refine WO_pass rfl ?_
   refine WO_pass rfl ?_
   refine WO_pass rfl ?_
   refine WO_pass rfl ?_
   refine WO_pure (v := (.bool true)) rfl rfl ?_
   refine WO_pure (v := (.bool true)) rfl rfl ?_
   refine WO_pass rfl ?_
   refine WO_pass rfl ?_
   refine WO_pass rfl ?_
   refine WO_pass rfl ?_
   refine WO_pass rfl ?_
   refine WO_pass rfl ?_
   refine WO_pass rfl ?_
   refine WO_pure (v := (.bool true)) rfl rfl ?_
   refine WO_nil ?_
   exact ⟨rfl, rfl, rfl, (by show ((.bool true) : Value) = (.bool (!decide (k = k' ∧ nm = nm' ∧ op = op' ∧ ev = ev' ∧ args.length = args'.length))); show Value.bool _ = Value.bool _; rw [Value.bool.injEq, Bool.eq_iff_iff]; first | (simp [c1]; done) | (simp [c1]; omega) | (simp_all []; done) | (simp_all []; omega) | (simp only [Bool.or_eq_true, Bool.and_eq_true, Bool.not_eq_true', decide_eq_true_eq, decide_eq_false_iff_not]; grind))⟩
  ·refine WO_same (v := (.pointer (some ⟨w.heap.size, 1, none⟩))) rfl (by kernel_rfl) ?_
   refine WO_load (a := ⟨w.heap.size, 1, none⟩) (v := (S nm)) rfl rfl Tryz.underlying9 rfl (cell_of (n2.keep e1) rfl) ?_
   refine WO_same (v := (.pointer (some ⟨w1.heap.size, 1, none⟩))) rfl (by kernel_rfl) ?_
   refine WO_load (a := ⟨w1.heap.size, 1, none⟩) (v := (S (nm'))) rfl rfl Tryz.underlying9 rfl (cell_of e2 rfl) ?_
   refine WO_sneq (l1 := nm) (l2 := nm') rfl rfl rfl ?_
   refine WO_pure (v := (.bool (!decide (nm = nm')))) rfl rfl ?_
   refine WO_pure (v := (.bool (!decide (nm = nm')))) rfl rfl ?_
   refine WO_split 19 (b := !decide (nm = nm')) (by exact rfl) (fun c2 => ?_) (fun c2 => ?_)
   ·refine WO_pass rfl ?_
    refine WO_pass rfl ?_
    refine WO_pass rfl ?_
    refine WO_pass rfl ?_
    refine WO_pass rfl ?_
    refine WO_pure (v := (.bool true)) rfl rfl ?_
    refine WO_pure (v := (.bool true)) rfl rfl ?_
    refine WO_pass rfl ?_
    refine WO_pass rfl ?_
    refine WO_pass rfl ?_
    refine WO_pass rfl ?_
    refine WO_pass rfl ?_
    refine WO_pure (v := (.bool true)) rfl rfl ?_
    refine WO_pure (v := (.bool true)) rfl rfl ?_
    refine WO_pass rfl ?_
    refine WO_pass rfl ?_
    refine WO_pass rfl ?_
    refine WO_pass rfl ?_
    refine WO_pass rfl ?_
    refine WO_pass rfl ?_
    refine WO_pass rfl ?_
    refine WO_pure (v := (.bool true)) rfl rfl ?_
    refine WO_nil ?_
    exact ⟨rfl, rfl, rfl, (by show ((.bool true) : Value) = (.bool (!decide (k = k' ∧ nm = nm' ∧ op = op' ∧ ev = ev' ∧ args.length = args'.length))); show Value.bool _ = Value.bool _; rw [Value.bool.injEq, Bool.eq_iff_iff]; first | (simp [c1, c2]; done) | (simp [c1, c2]; omega) | (simp_all []; done) | (simp_all []; omega) | (simp only [Bool.or_eq_true, Bool.and_eq_true, Bool.not_eq_true', decide_eq_true_eq, decide_eq_false_iff_not]; grind))⟩
   ·refine WO_same (v := (.pointer (some ⟨w.heap.size, 2, none⟩))) rfl (by kernel_rfl) ?_
    refine WO_load (a := ⟨w.heap.size, 2, none⟩) (v := (.int .i64 op)) rfl rfl Tryz.underlying3 rfl (cell_of (n2.keep e1) rfl) ?_
    refine WO_same (v := (.pointer (some ⟨w1.heap.size, 2, none⟩))) rfl (by kernel_rfl) ?_
    refine WO_load (a := ⟨w1.heap.size, 2, none⟩) (v := (.int .i64 (op'))) rfl rfl Tryz.underlying3 rfl (cell_of e2 rfl) ?_
    refine WO_pure (v := (.bool (!decide (op = op')))) rfl rfl ?_
    refine WO_pure (v := (.bool (!decide (op = op')))) rfl rfl ?_
    refine WO_pure (v := (.bool (!decide (op = op')))) rfl rfl ?_
    refine WO_split 26 (b := !decide (op = op')) (by exact rfl) (fun c3 => ?_) (fun c3 => ?_)
    ·refine WO_pass rfl ?_
     refine WO_pass rfl ?_
     refine WO_pass rfl ?_
     refine WO_pass rfl ?_
     refine WO_pass rfl ?_
     refine WO_pure (v := (.bool true)) rfl rfl ?_
     refine WO_pure (v := (.bool true)) rfl rfl ?_
     refine WO_pass rfl ?_
     refine WO_pass rfl ?_
     refine WO_pass rfl ?_
     refine WO_pass rfl ?_
     refine WO_pass rfl ?_
     refine WO_pass rfl ?_
     refine WO_pass rfl ?_
     refine WO_pure (v := (.bool true)) rfl rfl ?_
     refine WO_nil ?_
     exact ⟨rfl, rfl, rfl, (by show ((.bool true) : Value) = (.bool (!decide (k = k' ∧ nm = nm' ∧ op = op' ∧ ev = ev' ∧ args.length = args'.length))); show Value.bool _ = Value.bool _; rw [Value.bool.injEq, Bool.eq_iff_iff]; first | (simp [c1, c2, c3]; done) | (simp [c1, c2, c3]; omega) | (simp_all []; done) | (simp_all []; omega) | (simp only [Bool.or_eq_true, Bool.and_eq_true, Bool.not_eq_true', decide_eq_true_eq, decide_eq_false_iff_not]; grind))⟩
    ·refine WO_same (v := (.pointer (some ⟨w.heap.size, 3, none⟩))) rfl (by kernel_rfl) ?_
     refine WO_load (a := ⟨w.heap.size, 3, none⟩) (v := (S ev)) rfl rfl Tryz.underlying9 rfl (cell_of (n2.keep e1) rfl) ?_
     refine WO_same (v := (.pointer (some ⟨w1.heap.size, 3, none⟩))) rfl (by kernel_rfl) ?_
     refine WO_load (a := ⟨w1.heap.size, 3, none⟩) (v := (S (ev'))) rfl rfl Tryz.underlying9 rfl (cell_of e2 rfl) ?_
     refine WO_sneq (l1 := ev) (l2 := ev') rfl rfl rfl ?_
     refine WO_pure (v := (.bool (!decide (ev = ev')))) rfl rfl ?_
     refine WO_pure (v := (.bool (!decide (ev = ev')))) rfl rfl ?_
     refine WO_split 33 (b := !decide (ev = ev')) (by exact rfl) (fun c4 => ?_) (fun c4 => ?_)
     ·refine WO_pass rfl ?_
      refine WO_pass rfl ?_
      refine WO_pass rfl ?_
      refine WO_pass rfl ?_
      refine WO_pass rfl ?_
      refine WO_pass rfl ?_
      refine WO_pass rfl ?_
      refine WO_pure (v := (.bool true)) rfl rfl ?_
      refine WO_nil ?_
      exact ⟨rfl, rfl, rfl, (by show ((.bool true) : Value) = (.bool (!decide (k = k' ∧ nm = nm' ∧ op = op' ∧ ev = ev' ∧ args.length = args'.length))); show Value.bool _ = Value.bool _; rw [Value.bool.injEq, Bool.eq_iff_iff]; first | (simp [c1, c2, c3, c4]; done) | (simp [c1, c2, c3, c4]; omega) | (simp_all []; done) | (simp_all []; omega) | (simp only [Bool.or_eq_true, Bool.and_eq_true, Bool.not_eq_true', decide_eq_true_eq, decide_eq_false_iff_not]; grind))⟩
     ·refine WO_same (v := (.pointer (some ⟨w.heap.size, 4, none⟩))) rfl (by kernel_rfl) ?_
      refine WO_load (a := ⟨w.heap.size, 4, none⟩) (v := sv) rfl rfl Tryz.underlying22 rfl (cell_of (n2.keep e1) rfl) ?_
      refine WO_lenrow (v := sv) (m := args.length) (sz := 5) rfl rfl ((hr.ext n1.ext).ext n2.ext) Tryz.underlying22 ?_
      refine WO_same (v := (.pointer (some ⟨w1.heap.size, 4, none⟩))) rfl (by kernel_rfl) ?_
      refine WO_load (a := ⟨w1.heap.size, 4, none⟩) (v := (sv')) rfl rfl Tryz.underlying22 rfl (cell_of e2 rfl) ?_
      refine WO_lenrow (v := sv') (m := args'.length) (sz := 5) rfl rfl ((hr'.ext n1.ext).ext n2.ext) Tryz.underlying22 ?_
      refine WO_pure (v := (.bool (!decide ((args.length : Int) = (args'.length : Int))))) rfl rfl ?_
      refine WO_pure (v := (.bool (!decide ((args.length : Int) = (args'.length : Int))))) rfl rfl ?_
      refine WO_nil ?_
      exact ⟨rfl, rfl, rfl, (by show ((.bool (!decide ((args.length : Int) = (args'.length : Int)))) : Value) = (.bool (!decide (k = k' ∧ nm = nm' ∧ op = op' ∧ ev = ev' ∧ args.length = args'.length))); show Value.bool _ = Value.bool _; rw [Value.bool.injEq, Bool.eq_iff_iff]; first | (simp [c1, c2, c3, c4]; done) | (simp [c1, c2, c3, c4]; omega) | (simp_all []; done) | (simp_all []; omega) | (simp only [Bool.or_eq_true, Bool.and_eq_true, Bool.not_eq_true', decide_eq_true_eq, decide_eq_false_iff_not]; grind))⟩
 ·rintro σ1 _ ⟨rfl, h1_2, h1_3, h1_41⟩
  refine W_anchor (d := 2) h1_2 (W_anchor (d := 3) h1_3 (W_anchor (d := 41) h1_41 (?_)))
  refine W_cond (t := !decide (k = k' ∧ nm = nm' ∧ op = op' ∧ ev = ev' ∧ args.length = args'.length)) rfl (fun c5 => ?_) (fun c5 => ?_)
  ·refine W_seq ?_
   refine W_reg ?_
   refine WO_pure (v := (.bool false)) rfl rfl ?_
   refine WO_nil ?_
   refine W_ret ?_
   refine body_ret1 rfl (v0 := (.bool false)) rfl ?_
   have hbel := (n2.below (n1.below (Below.refl w.heap.size w) (Below.refl w.heap.size w).size) (n1.below (Below.refl w.heap.size w) (Below.refl w.heap.size w).size).size)
   exact ⟨by rw [same_no c5], hbel⟩
  ·refine W_skip ?_
   refine W_seq ?_
   refine W_seq ?_
   refine W_reg ?_
   refine WO_pure (v := (.int .i64 0)) rfl rfl ?_
   refine WO_nil ?_
   refine W_block ?_
   refine W_loop (fun g σ' w' => ∃ (i : Nat), σ' 2 = (.pointer (some ⟨w.heap.size, 0, none⟩)) ∧ σ' 3 = (.pointer (some ⟨w1.heap.size, 0, none⟩)) ∧ σ' 5 = (.int .i64 ((i : Int))) ∧ Below w.heap.size w w' ∧ w'.heap[w.heap.size]? = some (.cells #[(.int .i64 k), (S nm), (.int .i64 op), (S ev), sv] 24 (0, 0)) ∧ w'.heap[w1.heap.size]? = some (.cells #[(.int .i64 (k')), (S (nm')), (.int .i64 (op')), (S (ev')), (sv')] 24 (0, 0)) ∧ i ≤ args.length ∧ args.length = args'.length ∧ sameL args args' = sameL (args.drop i) (args'.drop i) ∧ g = args.length - i) ?_ ?_
   ·refine ⟨_, 0, rfl, rfl, rfl, (n2.below (n1.below (Below.refl w.heap.size w) (Below.refl w.heap.size w).size) (n1.below (Below.refl w.heap.size w) (Below.refl w.heap.size w).size).size), (n2.keep e1), e2, ?_, ?_, ?_, rfl⟩
    ·omega
    ·simp only [Bool.not_eq_false', decide_eq_true_eq] at c5; exact c5.2.2.2.2
    ·rfl
   ·rintro g σl1 wl1 ⟨i, l1_2, l1_3, l1_5, k1_1, k1_2, k1_3, f1_1, f1_2, f1_3, rfl⟩
    have z_wl1 := k1_1.size
    refine W_anchor (d := 2) l1_2 (W_anchor (d := 3) l1_3 (W_anchor (d := 5) l1_5 (?_)))
    refine W_seq ?_
    refine W_seq ?_
    refine W_reg ?_
    refine WO_pure (v := (.int .i64 ((i : Int)))) rfl rfl ?_
    refine WO_same (v := (.pointer (some ⟨w.heap.size, 4, none⟩))) rfl (by kernel_rfl) ?_
    refine WO_load (a := ⟨w.heap.size, 4, none⟩) (v := sv) rfl rfl Tryz.underlying22 rfl (cell_of k1_2 rfl) ?_
    refine WO_lenrow (v := sv) (m := args.length) (sz := 5) rfl rfl (hr.ext k1_1) Tryz.underlying22 ?_
    refine WO_pure (v := (.bool (decide ((i : Int) < (args.length : Int))))) rfl rfl ?_
    refine WO_nil ?_
    refine W_if (p := (i : Int) < (args.length : Int)) rfl (fun c6 => ?_) (fun c6 => ?_)
    ·refine W_skip ?_
     refine W_seq ?_
     refine W_block ?_
     refine W_seq ?_
     refine W_orderH (by kernel_rfl) (fun w3 d3 => ?_)
     have z3 := d3.ext.size
     refine WH_take (Below.refl w3.heap.size w3) 0 rfl (by kernel_rfl) (by kernel_rfl) (by kernel_rfl) rfl (v := (.pointer (some ⟨w.heap.size, 4, none⟩))) (fun _ => by kernel_rfl) ?_
     refine WH_load (Below.refl w3.heap.size w3) 1 rfl (by kernel_rfl) (by kernel_rfl) (by kernel_rfl) rfl (fun wq bq => R_load (a := ⟨w.heap.size, 4, none⟩) (v := sv) rfl Tryz.underlying22 rfl (cell_of (below_keep bq (drew_keep d3 k1_2)) rfl)) ?_
     refine WH_take (Below.refl w3.heap.size w3) 2 rfl (by kernel_rfl) (by kernel_rfl) (by kernel_rfl) rfl (fun _ => pure_run (v := (.int .i64 ((i : Int)))) rfl) ?_
     refine WH_idxs (Below.refl w3.heap.size w3) 3 (v := sv) (css := css) (i := i) rfl (by kernel_rfl) (by kernel_rfl) (by kernel_rfl) rfl rfl rfl ((hr.ext k1_1).drew d3) ha.each ha.len Tryz.underlying22 (fun _ => by kernel_rfl) (by first | rfl | omega) (by first | omega | (simp; done) | (simp; omega)) (fun b4 o4 x4 => ?_)
     refine WH_load (Below.refl w3.heap.size w3) 4 rfl (by kernel_rfl) (by kernel_rfl) (by kernel_rfl) rfl (fun wq bq => R_loads (vs := nth css i) (sz := 5) rfl Tryz.underlying24 rfl (ha.each _ (nth_mem (by rw [ha.len]; omega))) (fun _ => by kernel_rfl) (fun j u hj => below_cell bq (x4 j u hj))) ?_
     refine WH_take (Below.refl w3.heap.size w3) 5 rfl (by kernel_rfl) (by kernel_rfl) (by kernel_rfl) rfl (v := (.pointer (some ⟨w1.heap.size, 4, none⟩))) (fun _ => by kernel_rfl) ?_
     refine WH_load (Below.refl w3.heap.size w3) 6 rfl (by kernel_rfl) (by kernel_rfl) (by kernel_rfl) rfl (fun wq bq => R_load (a := ⟨w1.heap.size, 4, none⟩) (v := (sv')) rfl Tryz.underlying22 rfl (cell_of (below_keep bq (drew_keep d3 k1_3)) rfl)) ?_
     refine WH_take (Below.refl w3.heap.size w3) 7 rfl (by kernel_rfl) (by kernel_rfl) (by kernel_rfl) rfl (fun _ => pure_run (v := (.int .i64 ((i : Int)))) rfl) ?_
     refine WH_idxs (Below.refl w3.heap.size w3) 8 (v := sv') (css := css') (i := i) rfl (by kernel_rfl) (by kernel_rfl) (by kernel_rfl) rfl rfl rfl ((hr'.ext k1_1).drew d3) ha'.each ha'.len Tryz.underlying22 (fun _ => by kernel_rfl) (by first | rfl | omega) (by first | omega | (simp; done) | (simp; omega)) (fun b5 o5 x5 => ?_)
     refine WH_load (Below.refl w3.heap.size w3) 9 rfl (by kernel_rfl) (by kernel_rfl) (by kernel_rfl) rfl (fun wq bq => R_loads (vs := nth css' i) (sz := 5) rfl Tryz.underlying24 rfl (ha'.each _ (nth_mem (by rw [ha'.len]; omega))) (fun _ => by kernel_rfl) (fun j u hj => below_cell bq (x5 j u hj))) ?_
     refine WH_only 10 (by kernel_rfl) rfl ?_
     refine WO_call rfl (by exact en_11) (ih i i (by omega) (by omega) _ _ _ (ArgsC.at (ArgsC.ext (d3.below k1_1) args css ha) i (by omega)) (ArgsC.at (ArgsC.ext (d3.below k1_1) args' css' ha') i (by omega)) (by have := argsSize_nth (show i < args.length by omega); omega) (by have := argsSize_nth (show i < args'.length by omega); omega)) ?_
     rintro _ w6 ⟨rfl, h6⟩
     have z_w6 := h6.size
     refine WO_nil ⟨rfl, (below_ext (Below.refl w3.heap.size w3) h6), ?_⟩
     refine WH_take (below_ext (Below.refl w3.heap.size w3) h6) 11 rfl (by kernel_rfl) (by kernel_rfl) (by kernel_rfl) rfl (fun _ => pure_run (v := (.bool (sameB (nth args i) (nth args' i)))) rfl) ?_
     refine WH_done (by kernel_rfl) ?_
     refine W_seq ?_
     refine W_reg ?_
     refine WO_pure (v := (.bool (sameB (nth args i) (nth args' i)))) rfl rfl ?_
     refine WO_pure (v := (.bool (!(sameB (nth args i) (nth args' i))))) rfl rfl ?_
     refine WO_nil ?_
     refine W_cond (t := !(sameB (nth args i) (nth args' i))) rfl (fun c7 => ?_) (fun c7 => ?_)
     ·refine W_seq ?_
      refine W_reg ?_
      refine WO_pure (v := (.bool false)) rfl rfl ?_
      refine WO_nil ?_
      refine W_ret ?_
      refine body_ret1 rfl (v0 := (.bool false)) rfl ?_
      have hbel := (below_ext (d3.below k1_1) h6)
      exact ⟨by rw [same_yes c5, f1_3, sameL_step (by omega) (by omega), show sameB (nth args i) (nth args' i) = false by simpa using c7]; rfl, hbel⟩
     ·refine W_skip ?_
      refine W_reg ?_
      refine WO_pure (v := (.int .i64 ((i : Int)))) rfl rfl ?_
      refine WO_add (b := 1) (v := (i : Int) + 1) rfl rfl rfl (by simp only [kLo, kHi]; omega) ?_
      refine WO_pure (v := (.int .i64 ((i : Int) + 1))) rfl rfl ?_
      refine WO_nil ?_
      refine ⟨_, ?_, i + 1, rfl, rfl, rfl, (below_ext (d3.below k1_1) h6), (below_keep h6 (drew_keep d3 k1_2)), (below_keep h6 (drew_keep d3 k1_3)), ?_, ?_, ?_, rfl⟩
      ·first | omega | assumption
      ·omega
      ·exact f1_2
      ·rw [f1_3, sameL_step (by omega) (by omega), show sameB (nth args i) (nth args' i) = true by simpa using c7]; rfl
    ·refine W_exit ?_
     refine W_seq ?_
     refine W_reg ?_
     refine WO_pure (v := (.bool true)) rfl rfl ?_
     refine WO_nil ?_
     refine W_ret ?_
     refine body_ret1 rfl (v0 := (.bool true)) rfl ?_
     have hbel := k1_1
     exact ⟨by rw [same_yes c5, f1_3, List.drop_of_length_le (by omega), List.drop_of_length_le (by omega)]; rfl, hbel⟩
theorem same_any (d : DepT) : ∀ d', SameSaid d d' := by
 refine dep_all (C := fun d => ∀ d', SameSaid d d') (fun k nm op ev args ih d' => ?_) d
 cases d' with
 | mk k' nm' op' ev' args' =>
  intro w cs cs' h h' hs hs'
  unfold DepC at h h'
  obtain ⟨sv, css, rfl, hr, ha⟩ := h
  obtain ⟨sv', css', rfl, hr', ha'⟩ := h'
  unfold DepT.size at hs hs'
  exact same_step k op nm ev args sv css k' op' nm' ev' args' sv' css' w hr ha hr' ha' (by omega) (by omega) (fun i j hi hj => ih i hi _)
end Go.Proofs.YtaegacblpbbndaaGreatDoor
end
section
namespace Go.Proofs.YtaegacblpbbndaaGreatDoor
open Go Go.RowKit
theorem en_25 : Enters Tryz.prog 25 := enters_of Tryz.func25 (by kernel_rfl) rfl
theorem en_13 : Enters Tryz.prog 13 := enters_of Tryz.func13 (by kernel_rfl) rfl
def DepT.kind : DepT → Int
 | .mk k _ _ _ _ => k
theorem ArgsC.kind {w : World} {args : List DepT} {css : List (List Value)} (h : ArgsC w args css) {i : Nat} (hi : i < args.length) : (nth css i)[0]? = some (.int .i64 (nth args i).kind) := by
 have h1 := ArgsC.at h i hi
 cases hd : nth args i with
 | mk k nm op ev bs =>
  rw [hd] at h1
  unfold DepC at h1
  obtain ⟨sv, cs, h2, _⟩ := h1
  rw [h2]; rfl
def formName (nm : List UInt8) (op : Int) (ev : List UInt8) (n : Nat) : Bool := nameB nm && (decide (0 ≤ op) && (decide (op ≤ 7) && (decide (n = 0) && (if op = 0 then decide (ev = []) else decide (evrE ev = 0)))))
def formBad (k : Int) (nm : List UInt8) (op : Int) (ev : List UInt8) (n : Nat) : Bool := decide ((k < 2 ∨ 6 < k ∨ nm ≠ [] ∨ op ≠ 0 ∨ ev ≠ [] ∨ n < 2) ∨ ((k = 4 ∧ 3 < n) ∨ (k = 6 ∧ 2 < n)))
def kindOK (k m : Int) : Bool := !decide (5 ≤ k ∧ m ≠ 1 ∧ m ≠ 5 ∧ m ≠ 6)
mutual
def formB : DepT → Bool
 | .mk k nm op ev args => if k = 1 then formName nm op ev args.length else !formBad k nm op ev args.length && argsForm k args
def argsForm (k : Int) : List DepT → Bool
 | [] => true
 | d :: r => kindOK k d.kind && (formB d && argsForm k r)
end
theorem argsForm_step {k : Int} {l : List DepT} {i : Nat} (h : i < l.length) : argsForm k (l.drop i) = (kindOK k (nth l i).kind && (formB (nth l i) && argsForm k (l.drop (i + 1)))) := by rw [drop_nth h, argsForm]
section
variable {k op : Int} {nm ev : List UInt8} {n : Nat}
theorem fn_no (h : ¬(nameB nm = true ∧ 0 ≤ op ∧ op ≤ 7 ∧ n = 0)) : formName nm op ev n = false := by
 unfold formName
 cases hn : nameB nm with
 | false => rfl
 | true =>
  by_cases h1 : 0 ≤ op
  ·by_cases h2 : op ≤ 7
   ·have h3 : n ≠ 0 := fun h3 => h ⟨hn, h1, h2, h3⟩
    simp [h1, h2, h3]
   ·simp [h1, h2]
  ·simp [h1]
theorem fn_zero (h : nameB nm = true ∧ 0 ≤ op ∧ op ≤ 7 ∧ n = 0) (h0 : op = 0) : formName nm op ev n = decide (ev = []) := by
 unfold formName; simp [h.1, h0, h.2.2.2]
theorem fn_op (h : nameB nm = true ∧ 0 ≤ op ∧ op ≤ 7 ∧ n = 0) (h0 : ¬ op = 0) : formName nm op ev n = decide (evrE ev = 0) := by
 unfold formName; simp [h.1, h.2.1, h.2.2.1, h0, h.2.2.2]
theorem fb_head (h : k < 2 ∨ 6 < k ∨ nm ≠ [] ∨ op ≠ 0 ∨ ev ≠ [] ∨ n < 2) : formBad k nm op ev n = true := by unfold formBad; exact decide_eq_true (.inl h)
theorem fb_many (h : (k = 4 ∧ 3 < n) ∨ (k = 6 ∧ 2 < n)) : formBad k nm op ev n = true := by unfold formBad; exact decide_eq_true (.inr h)
theorem fb_ok (h : ¬(k < 2 ∨ 6 < k ∨ nm ≠ [] ∨ op ≠ 0 ∨ ev ≠ [] ∨ n < 2)) (h' : ¬((k = 4 ∧ 3 < n) ∨ (k = 6 ∧ 2 < n))) : formBad k nm op ev n = false := by
 unfold formBad; exact decide_eq_false fun hc => hc.elim h h'
theorem kind_no {m : Int} (h : 5 ≤ k ∧ m ≠ 1 ∧ m ≠ 5 ∧ m ≠ 6) : kindOK k m = false := by unfold kindOK; rw [decide_eq_true h]; rfl
theorem kind_yes {m : Int} (h : ¬(5 ≤ k ∧ m ≠ 1 ∧ m ≠ 5 ∧ m ≠ 6)) : kindOK k m = true := by unfold kindOK; rw [decide_eq_false h]; rfl
end
def FormSaid (f : Nat) (d : DepT) : Prop := ∀ (w : World) (cs : List Value), DepC w d cs → d.size ≤ 4194304 → Calls Tryz.prog f #[.agg cs.toArray] w (Ret fun v w' => v = .bool (formB d) ∧ Below w.heap.size w w')
set_option maxHeartbeats 1000000 in
set_option maxRecDepth 100000 in
theorem refForm_step (k op : Int) (nm ev : List UInt8) (args : List DepT) (sv : Value) (css : List (List Value)) (w : World) (hr : RowIs w sv args.length 5 css.flatten) (ha : ArgsC w args css) (hs : argsSize args + 1 + nm.length + ev.length ≤ 4194304) (ih : ∀ i, i < args.length → FormSaid 25 (nth args i)) :
  Calls Tryz.prog 25 #[(.agg #[(.int .i64 k), (S nm), (.int .i64 op), (S ev), sv])] w (Ret fun v w' => v = .bool (formB (.mk k nm op ev args)) ∧ Below w.heap.size w w') := by
 have hal := argsSize_len args
 refine calls_W Tryz.func25 rfl Tryz.ntmps25 ?_
 refine W_seq ?_
 refine W_reg ?_
 refine WO_box (v := (.agg #[(.int .i64 k), (S nm), (.int .i64 op), (S ev), sv])) rfl rfl (fun w1 n1 => ?_)
 have e1 : w1.heap[w.heap.size]? = some (.cells #[(.int .i64 k), (S nm), (.int .i64 op), (S ev), sv] 24 (0, 0)) := n1.here
 have z1 := n1.size
 refine WO_pure (v := (.bool false)) rfl rfl ?_
 refine WO_nil ?_
 refine W_seq ?_
 refine W_seq ?_
 refine W_reg ?_
 refine WO_same (v := (.pointer (some ⟨w.heap.size, 0, none⟩))) rfl (by kernel_rfl) ?_
 refine WO_load (a := ⟨w.heap.size, 0, none⟩) (v := (.int .i64 k)) rfl rfl Tryz.underlying3 rfl (cell_of e1 rfl) ?_
 refine WO_pure (v := (.bool (decide (k = 1)))) rfl rfl ?_
 refine WO_nil ?_
 refine W_if (p := k = 1) rfl (fun c1 => ?_) (fun c1 => ?_)
 ·refine W_seq ?_
  refine W_reg ?_
  refine WO_same (v := (.pointer (some ⟨w.heap.size, 1, none⟩))) rfl (by kernel_rfl) ?_
  refine WO_load (a := ⟨w.heap.size, 1, none⟩) (v := (S nm)) rfl rfl Tryz.underlying9 rfl (cell_of e1 rfl) ?_
  refine WO_call rfl (by exact en_44) (refName_any nm _ (by omega)) ?_
  rintro _ _ ⟨rfl, rfl⟩
  refine WO_pure (v := (.bool (nameB nm))) rfl rfl ?_
  refine WO_nil ?_
  refine W_seq ?_
  refine W_cut (fun σ' w' => w1 = w' ∧ σ' 1 = (.pointer (some ⟨w.heap.size, 0, none⟩)) ∧ σ' 33 = (.bool (decide (¬(nameB nm = true ∧ 0 ≤ op ∧ op ≤ 7 ∧ args.length = 0))))) ?_ ?_
  ·refine W_reg ?_
   refine WO_pure (v := (.bool (nameB nm))) rfl rfl ?_
   refine WO_pure (v := (.bool (!(nameB nm)))) rfl rfl ?_
   refine WO_pure (v := (.bool (!(nameB nm)))) rfl rfl ?_
   refine WO_split 18 (b := !(nameB nm)) (by exact rfl) (fun c2 => ?_) (fun c2 => ?_)
   ·refine WO_pass rfl ?_
    refine WO_pass rfl ?_
    refine WO_pass rfl ?_
    refine WO_pure (v := (.bool true)) rfl rfl ?_
    refine WO_pure (v := (.bool true)) rfl rfl ?_
    refine WO_pass rfl ?_
    refine WO_pass rfl ?_
    refine WO_pass rfl ?_
    refine WO_pure (v := (.bool true)) rfl rfl ?_
    refine WO_pure (v := (.bool true)) rfl rfl ?_
    refine WO_pass rfl ?_
    refine WO_pass rfl ?_
    refine WO_pass rfl ?_
    refine WO_pass rfl ?_
    refine WO_pure (v := (.bool true)) rfl rfl ?_
    refine WO_nil ?_
    exact ⟨rfl, rfl, (by show ((.bool true) : Value) = (.bool (decide (¬(nameB nm = true ∧ 0 ≤ op ∧ op ≤ 7 ∧ args.length = 0)))); show Value.bool _ = Value.bool _; rw [Value.bool.injEq, Bool.eq_iff_iff]; first | (simp [c2]; done) | (simp [c2]; omega) | (simp_all []; done) | (simp_all []; omega) | (simp only [Bool.or_eq_true, Bool.and_eq_true, Bool.not_eq_true', decide_eq_true_eq, decide_eq_false_iff_not]; grind))⟩
   ·refine WO_same (v := (.pointer (some ⟨w.heap.size, 2, none⟩))) rfl (by kernel_rfl) ?_
    refine WO_load (a := ⟨w.heap.size, 2, none⟩) (v := (.int .i64 op)) rfl rfl Tryz.underlying3 rfl (cell_of e1 rfl) ?_
    refine WO_pure (v := (.bool (decide (op < 0)))) rfl rfl ?_
    refine WO_pure (v := (.bool (decide (op < 0)))) rfl rfl ?_
    refine WO_pure (v := (.bool (decide (op < 0)))) rfl rfl ?_
    refine WO_splitp 23 (p := op < 0) (by exact rfl) (fun c3 => ?_) (fun c3 => ?_)
    ·refine WO_pass rfl ?_
     refine WO_pass rfl ?_
     refine WO_pass rfl ?_
     refine WO_pure (v := (.bool true)) rfl rfl ?_
     refine WO_pure (v := (.bool true)) rfl rfl ?_
     refine WO_pass rfl ?_
     refine WO_pass rfl ?_
     refine WO_pass rfl ?_
     refine WO_pass rfl ?_
     refine WO_pure (v := (.bool true)) rfl rfl ?_
     refine WO_nil ?_
     exact ⟨rfl, rfl, (by show ((.bool true) : Value) = (.bool (decide (¬(nameB nm = true ∧ 0 ≤ op ∧ op ≤ 7 ∧ args.length = 0)))); show Value.bool _ = Value.bool _; rw [Value.bool.injEq, Bool.eq_iff_iff]; first | (simp [c2, c3]; done) | (simp [c2, c3]; omega) | (simp_all []; done) | (simp_all []; omega) | (simp only [Bool.or_eq_true, Bool.and_eq_true, Bool.not_eq_true', decide_eq_true_eq, decide_eq_false_iff_not]; grind))⟩
    ·refine WO_same (v := (.pointer (some ⟨w.heap.size, 2, none⟩))) rfl (by kernel_rfl) ?_
     refine WO_load (a := ⟨w.heap.size, 2, none⟩) (v := (.int .i64 op)) rfl rfl Tryz.underlying3 rfl (cell_of e1 rfl) ?_
     refine WO_pure (v := (.bool (decide (7 < op)))) rfl rfl ?_
     refine WO_pure (v := (.bool (decide (7 < op)))) rfl rfl ?_
     refine WO_pure (v := (.bool (decide (7 < op)))) rfl rfl ?_
     refine WO_splitp 28 (p := 7 < op) (by exact rfl) (fun c4 => ?_) (fun c4 => ?_)
     ·refine WO_pass rfl ?_
      refine WO_pass rfl ?_
      refine WO_pass rfl ?_
      refine WO_pass rfl ?_
      refine WO_pure (v := (.bool true)) rfl rfl ?_
      refine WO_nil ?_
      exact ⟨rfl, rfl, (by show ((.bool true) : Value) = (.bool (decide (¬(nameB nm = true ∧ 0 ≤ op ∧ op ≤ 7 ∧ args.length = 0)))); show Value.bool _ = Value.bool _; rw [Value.bool.injEq, Bool.eq_iff_iff]; first | (simp [c2, c3, c4]; done) | (simp [c2, c3, c4]; omega) | (simp_all []; done) | (simp_all []; omega) | (simp only [Bool.or_eq_true, Bool.and_eq_true, Bool.not_eq_true', decide_eq_true_eq, decide_eq_false_iff_not]; grind))⟩
     ·refine WO_same (v := (.pointer (some ⟨w.heap.size, 4, none⟩))) rfl (by kernel_rfl) ?_
      refine WO_load (a := ⟨w.heap.size, 4, none⟩) (v := sv) rfl rfl Tryz.underlying22 rfl (cell_of e1 rfl) ?_
      refine WO_lenrow (v := sv) (m := args.length) (sz := 5) rfl rfl (hr.ext n1.ext) Tryz.underlying22 ?_
      refine WO_pure (v := (.bool (decide (0 < (args.length : Int))))) rfl rfl ?_
      refine WO_pure (v := (.bool (decide (0 < (args.length : Int))))) rfl rfl ?_
      refine WO_nil ?_
      exact ⟨rfl, rfl, (by show ((.bool (decide (0 < (args.length : Int)))) : Value) = (.bool (decide (¬(nameB nm = true ∧ 0 ≤ op ∧ op ≤ 7 ∧ args.length = 0)))); show Value.bool _ = Value.bool _; rw [Value.bool.injEq, Bool.eq_iff_iff]; first | (simp [c2, c3, c4]; done) | (simp [c2, c3, c4]; omega) | (simp_all []; done) | (simp_all []; omega) | (simp only [Bool.or_eq_true, Bool.and_eq_true, Bool.not_eq_true', decide_eq_true_eq, decide_eq_false_iff_not]; grind))⟩
  ·rintro σ1 _ ⟨rfl, h1_1, h1_33⟩
   refine W_anchor (d := 1) h1_1 (W_anchor (d := 33) h1_33 (?_))
   refine W_if (p := ¬(nameB nm = true ∧ 0 ≤ op ∧ op ≤ 7 ∧ args.length = 0)) rfl (fun c5 => ?_) (fun c5 => ?_)
   ·refine W_seq ?_
    refine W_reg ?_
    refine WO_pure (v := (.bool false)) rfl rfl ?_
    refine WO_nil ?_
    refine W_ret ?_
    refine body_ret1 rfl (v0 := (.bool false)) rfl ?_
    have hbel := (n1.below (Below.refl w.heap.size w) (Below.refl w.heap.size w).size)
    exact ⟨by unfold formB; rw [if_pos c1, fn_no c5], hbel⟩
   ·refine W_skip ?_
    refine W_seq ?_
    refine W_seq ?_
    refine W_reg ?_
    refine WO_same (v := (.pointer (some ⟨w.heap.size, 2, none⟩))) rfl (by kernel_rfl) ?_
    refine WO_load (a := ⟨w.heap.size, 2, none⟩) (v := (.int .i64 op)) rfl rfl Tryz.underlying3 rfl (cell_of e1 rfl) ?_
    refine WO_pure (v := (.bool (decide (op = 0)))) rfl rfl ?_
    refine WO_nil ?_
    refine W_if (p := op = 0) rfl (fun c6 => ?_) (fun c6 => ?_)
    ·refine W_seq ?_
     refine W_reg ?_
     refine WO_same (v := (.pointer (some ⟨w.heap.size, 3, none⟩))) rfl (by kernel_rfl) ?_
     refine WO_load (a := ⟨w.heap.size, 3, none⟩) (v := (S ev)) rfl rfl Tryz.underlying9 rfl (cell_of e1 rfl) ?_
     refine WO_seql (l1 := ev) (l2 := []) rfl rfl rfl ?_
     refine WO_pure (v := (.bool (decide (ev = [])))) rfl rfl ?_
     refine WO_nil ?_
     refine W_ret ?_
     refine body_ret1 rfl (v0 := (.bool (decide (ev = [])))) rfl ?_
     have hbel := (n1.below (Below.refl w.heap.size w) (Below.refl w.heap.size w).size)
     exact ⟨by unfold formB; rw [if_pos c1, fn_zero (Decidable.not_not.1 c5) c6], hbel⟩
    ·refine W_skip ?_
     refine W_seq ?_
     refine W_reg ?_
     refine WO_same (v := (.pointer (some ⟨w.heap.size, 3, none⟩))) rfl (by kernel_rfl) ?_
     refine WO_load (a := ⟨w.heap.size, 3, none⟩) (v := (S ev)) rfl rfl Tryz.underlying9 rfl (cell_of e1 rfl) ?_
     refine WO_call rfl (by exact en_45) (ref03Parse_any ev _ (by omega)) ?_
     rintro _ w2 ⟨⟨ea2, eb2, ec2, rfl⟩, h2⟩
     have z_w2 := h2.size
     refine WO_pure rfl rfl ?_
     refine WO_pure (v := (.agg #[(S ea2), (S eb2), (S ec2)])) rfl rfl ?_
     refine WO_pure (v := (.int .i64 (evrE ev))) rfl rfl ?_
     refine WO_alloc (v := (.agg #[(S []), (S []), (S [])])) rfl (fun _ => by kernel_rfl) (fun w3 n3 => ?_)
     have e3 : w3.heap[w2.heap.size]? = some (.cells #[(S []), (S []), (S [])] 73 (0, 0)) := n3.here
     have z3 := n3.size
     have p4 := e3
     refine WO_storerow (b := w2.heap.size) (o := 0) (c' := #[(S ea2), (S eb2), (S ec2)]) rfl rfl rfl (fun _ => by kernel_rfl) (by simp [Value.oneCell']) p4 (by simp) (fun w4 u4 => ?_)
     have e4 : w4.heap[w2.heap.size]? = some (.cells #[(S ea2), (S eb2), (S ec2)] 73 (0, 0)) := u4.here
     have z4 := u4.size
     refine WO_pure (v := (.int .i64 (evrE ev))) rfl rfl ?_
     refine WO_nil ?_
     refine W_seq ?_
     refine W_reg ?_
     refine WO_pure (v := (.int .i64 (evrE ev))) rfl rfl ?_
     refine WO_pure (v := (.bool (decide ((evrE ev) = 0)))) rfl rfl ?_
     refine WO_pure (v := (.bool (decide ((evrE ev) = 0)))) rfl rfl ?_
     refine WO_nil ?_
     refine W_ret ?_
     refine body_ret1 rfl (v0 := (.bool (decide ((evrE ev) = 0)))) rfl ?_
     have hbel := (u4.below (n3.below (below_ext (n1.below (Below.refl w.heap.size w) (Below.refl w.heap.size w).size) h2) (below_ext (n1.below (Below.refl w.heap.size w) (Below.refl w.heap.size w).size) h2).size) (by omega))
     exact ⟨by unfold formB; rw [if_pos c1, fn_op (Decidable.not_not.1 c5) c6], hbel⟩
 ·refine W_skip ?_
  refine W_seq ?_
  refine W_reg ?_
  refine WO_same (v := (.pointer (some ⟨w.heap.size, 4, none⟩))) rfl (by kernel_rfl) ?_
  refine WO_load (a := ⟨w.heap.size, 4, none⟩) (v := sv) rfl rfl Tryz.underlying22 rfl (cell_of e1 rfl) ?_
  refine WO_lenrow (v := sv) (m := args.length) (sz := 5) rfl rfl (hr.ext n1.ext) Tryz.underlying22 ?_
  refine WO_pure (v := (.int .i64 ((args.length : Int)))) rfl rfl ?_
  refine WO_nil ?_
  refine W_seq ?_
  refine W_cut (fun σ' w' => w1 = w' ∧ σ' 1 = (.pointer (some ⟨w.heap.size, 0, none⟩)) ∧ σ' 6 = (.int .i64 ((args.length : Int))) ∧ σ' 77 = (.bool (decide (k < 2 ∨ 6 < k ∨ nm ≠ [] ∨ op ≠ 0 ∨ ev ≠ [] ∨ args.length < 2)))) ?_ ?_
  ·refine W_reg ?_
   refine WO_same (v := (.pointer (some ⟨w.heap.size, 0, none⟩))) rfl (by kernel_rfl) ?_
   refine WO_load (a := ⟨w.heap.size, 0, none⟩) (v := (.int .i64 k)) rfl rfl Tryz.underlying3 rfl (cell_of e1 rfl) ?_
   refine WO_pure (v := (.bool (decide (k < 2)))) rfl rfl ?_
   refine WO_pure (v := (.bool (decide (k < 2)))) rfl rfl ?_
   refine WO_splitp 54 (p := k < 2) (by exact rfl) (fun c7 => ?_) (fun c7 => ?_)
   ·refine WO_pass rfl ?_
    refine WO_pass rfl ?_
    refine WO_pass rfl ?_
    refine WO_pure (v := (.bool true)) rfl rfl ?_
    refine WO_pure (v := (.bool true)) rfl rfl ?_
    refine WO_pass rfl ?_
    refine WO_pass rfl ?_
    refine WO_pass rfl ?_
    refine WO_pure (v := (.bool true)) rfl rfl ?_
    refine WO_pure (v := (.bool true)) rfl rfl ?_
    refine WO_pass rfl ?_
    refine WO_pass rfl ?_
    refine WO_pass rfl ?_
    refine WO_pure (v := (.bool true)) rfl rfl ?_
    refine WO_pure (v := (.bool true)) rfl rfl ?_
    refine WO_pass rfl ?_
    refine WO_pass rfl ?_
    refine WO_pass rfl ?_
    refine WO_pure (v := (.bool true)) rfl rfl ?_
    refine WO_pure (v := (.bool true)) rfl rfl ?_
    refine WO_pass rfl ?_
    refine WO_pass rfl ?_
    refine WO_pure (v := (.bool true)) rfl rfl ?_
    refine WO_nil ?_
    exact ⟨rfl, rfl, rfl, (by show ((.bool true) : Value) = (.bool (decide (k < 2 ∨ 6 < k ∨ nm ≠ [] ∨ op ≠ 0 ∨ ev ≠ [] ∨ args.length < 2))); show Value.bool _ = Value.bool _; rw [Value.bool.injEq, Bool.eq_iff_iff]; first | (simp [c7]; done) | (simp [c7]; omega) | (simp_all []; done) | (simp_all []; omega) | (simp only [Bool.or_eq_true, Bool.and_eq_true, Bool.not_eq_true', decide_eq_true_eq, decide_eq_false_iff_not]; grind))⟩
   ·refine WO_same (v := (.pointer (some ⟨w.heap.size, 0, none⟩))) rfl (by kernel_rfl) ?_
    refine WO_load (a := ⟨w.heap.size, 0, none⟩) (v := (.int .i64 k)) rfl rfl Tryz.underlying3 rfl (cell_of e1 rfl) ?_
    refine WO_pure (v := (.bool (decide (6 < k)))) rfl rfl ?_
    refine WO_pure (v := (.bool (decide (6 < k)))) rfl rfl ?_
    refine WO_pure (v := (.bool (decide (6 < k)))) rfl rfl ?_
    refine WO_splitp 59 (p := 6 < k) (by exact rfl) (fun c8 => ?_) (fun c8 => ?_)
    ·refine WO_pass rfl ?_
     refine WO_pass rfl ?_
     refine WO_pass rfl ?_
     refine WO_pure (v := (.bool true)) rfl rfl ?_
     refine WO_pure (v := (.bool true)) rfl rfl ?_
     refine WO_pass rfl ?_
     refine WO_pass rfl ?_
     refine WO_pass rfl ?_
     refine WO_pure (v := (.bool true)) rfl rfl ?_
     refine WO_pure (v := (.bool true)) rfl rfl ?_
     refine WO_pass rfl ?_
     refine WO_pass rfl ?_
     refine WO_pass rfl ?_
     refine WO_pure (v := (.bool true)) rfl rfl ?_
     refine WO_pure (v := (.bool true)) rfl rfl ?_
     refine WO_pass rfl ?_
     refine WO_pass rfl ?_
     refine WO_pure (v := (.bool true)) rfl rfl ?_
     refine WO_nil ?_
     exact ⟨rfl, rfl, rfl, (by show ((.bool true) : Value) = (.bool (decide (k < 2 ∨ 6 < k ∨ nm ≠ [] ∨ op ≠ 0 ∨ ev ≠ [] ∨ args.length < 2))); show Value.bool _ = Value.bool _; rw [Value.bool.injEq, Bool.eq_iff_iff]; first | (simp [c7, c8]; done) | (simp [c7, c8]; omega) | (simp_all []; done) | (simp_all []; omega) | (simp only [Bool.or_eq_true, Bool.and_eq_true, Bool.not_eq_true', decide_eq_true_eq, decide_eq_false_iff_not]; grind))⟩
    ·refine WO_same (v := (.pointer (some ⟨w.heap.size, 1, none⟩))) rfl (by kernel_rfl) ?_
     refine WO_load (a := ⟨w.heap.size, 1, none⟩) (v := (S nm)) rfl rfl Tryz.underlying9 rfl (cell_of e1 rfl) ?_
     refine WO_sneq (l1 := nm) (l2 := []) rfl rfl rfl ?_
     refine WO_pure (v := (.bool (!decide (nm = [])))) rfl rfl ?_
     refine WO_pure (v := (.bool (!decide (nm = [])))) rfl rfl ?_
     refine WO_split 64 (b := !decide (nm = [])) (by exact rfl) (fun c9 => ?_) (fun c9 => ?_)
     ·refine WO_pass rfl ?_
      refine WO_pass rfl ?_
      refine WO_pass rfl ?_
      refine WO_pure (v := (.bool true)) rfl rfl ?_
      refine WO_pure (v := (.bool true)) rfl rfl ?_
      refine WO_pass rfl ?_
      refine WO_pass rfl ?_
      refine WO_pass rfl ?_
      refine WO_pure (v := (.bool true)) rfl rfl ?_
      refine WO_pure (v := (.bool true)) rfl rfl ?_
      refine WO_pass rfl ?_
      refine WO_pass rfl ?_
      refine WO_pure (v := (.bool true)) rfl rfl ?_
      refine WO_nil ?_
      exact ⟨rfl, rfl, rfl, (by show ((.bool true) : Value) = (.bool (decide (k < 2 ∨ 6 < k ∨ nm ≠ [] ∨ op ≠ 0 ∨ ev ≠ [] ∨ args.length < 2))); show Value.bool _ = Value.bool _; rw [Value.bool.injEq, Bool.eq_iff_iff]; first | (simp [c7, c8, c9]; done) | (simp [c7, c8, c9]; omega) | (simp_all []; done) | (simp_all []; omega) | (simp only [Bool.or_eq_true, Bool.and_eq_true, Bool.not_eq_true', decide_eq_true_eq, decide_eq_false_iff_not]; grind))⟩
     ·refine WO_same (v := (.pointer (some ⟨w.heap.size, 2, none⟩))) rfl (by kernel_rfl) ?_
      refine WO_load (a := ⟨w.heap.size, 2, none⟩) (v := (.int .i64 op)) rfl rfl Tryz.underlying3 rfl (cell_of e1 rfl) ?_
      refine WO_pure (v := (.bool (!decide (op = 0)))) rfl rfl ?_
      refine WO_pure (v := (.bool (!decide (op = 0)))) rfl rfl ?_
      refine WO_pure (v := (.bool (!decide (op = 0)))) rfl rfl ?_
      refine WO_split 69 (b := !decide (op = 0)) (by exact rfl) (fun c10 => ?_) (fun c10 => ?_)
      ·refine WO_pass rfl ?_
       refine WO_pass rfl ?_
       refine WO_pass rfl ?_
       refine WO_pure (v := (.bool true)) rfl rfl ?_
       refine WO_pure (v := (.bool true)) rfl rfl ?_
       refine WO_pass rfl ?_
       refine WO_pass rfl ?_
       refine WO_pure (v := (.bool true)) rfl rfl ?_
       refine WO_nil ?_
       exact ⟨rfl, rfl, rfl, (by show ((.bool true) : Value) = (.bool (decide (k < 2 ∨ 6 < k ∨ nm ≠ [] ∨ op ≠ 0 ∨ ev ≠ [] ∨ args.length < 2))); show Value.bool _ = Value.bool _; rw [Value.bool.injEq, Bool.eq_iff_iff]; first | (simp [c7, c8, c9, c10]; done) | (simp [c7, c8, c9, c10]; omega) | (simp_all []; done) | (simp_all []; omega) | (simp only [Bool.or_eq_true, Bool.and_eq_true, Bool.not_eq_true', decide_eq_true_eq, decide_eq_false_iff_not]; grind))⟩
      ·refine WO_same (v := (.pointer (some ⟨w.heap.size, 3, none⟩))) rfl (by kernel_rfl) ?_
       refine WO_load (a := ⟨w.heap.size, 3, none⟩) (v := (S ev)) rfl rfl Tryz.underlying9 rfl (cell_of e1 rfl) ?_
       refine WO_sneq (l1 := ev) (l2 := []) rfl rfl rfl ?_
       refine WO_pure (v := (.bool (!decide (ev = [])))) rfl rfl ?_
       refine WO_pure (v := (.bool (!decide (ev = [])))) rfl rfl ?_
       refine WO_split 74 (b := !decide (ev = [])) (by exact rfl) (fun c11 => ?_) (fun c11 => ?_)
       ·refine WO_pass rfl ?_
        refine WO_pass rfl ?_
        refine WO_pure (v := (.bool true)) rfl rfl ?_
        refine WO_nil ?_
        exact ⟨rfl, rfl, rfl, (by show ((.bool true) : Value) = (.bool (decide (k < 2 ∨ 6 < k ∨ nm ≠ [] ∨ op ≠ 0 ∨ ev ≠ [] ∨ args.length < 2))); show Value.bool _ = Value.bool _; rw [Value.bool.injEq, Bool.eq_iff_iff]; first | (simp [c7, c8, c9, c10, c11]; done) | (simp [c7, c8, c9, c10, c11]; omega) | (simp_all []; done) | (simp_all []; omega) | (simp only [Bool.or_eq_true, Bool.and_eq_true, Bool.not_eq_true', decide_eq_true_eq, decide_eq_false_iff_not]; grind))⟩
       ·refine WO_pure (v := (.int .i64 ((args.length : Int)))) rfl rfl ?_
        refine WO_pure (v := (.bool (decide ((args.length : Int) < 2)))) rfl rfl ?_
        refine WO_pure (v := (.bool (decide ((args.length : Int) < 2)))) rfl rfl ?_
        refine WO_nil ?_
        exact ⟨rfl, rfl, rfl, (by show ((.bool (decide ((args.length : Int) < 2))) : Value) = (.bool (decide (k < 2 ∨ 6 < k ∨ nm ≠ [] ∨ op ≠ 0 ∨ ev ≠ [] ∨ args.length < 2))); show Value.bool _ = Value.bool _; rw [Value.bool.injEq, Bool.eq_iff_iff]; first | (simp [c7, c8, c9, c10, c11]; done) | (simp [c7, c8, c9, c10, c11]; omega) | (simp_all []; done) | (simp_all []; omega) | (simp only [Bool.or_eq_true, Bool.and_eq_true, Bool.not_eq_true', decide_eq_true_eq, decide_eq_false_iff_not]; grind))⟩
  ·rintro σ2 _ ⟨rfl, h2_1, h2_6, h2_77⟩
   refine W_anchor (d := 1) h2_1 (W_anchor (d := 6) h2_6 (W_anchor (d := 77) h2_77 (?_)))
   refine W_if (p := k < 2 ∨ 6 < k ∨ nm ≠ [] ∨ op ≠ 0 ∨ ev ≠ [] ∨ args.length < 2) rfl (fun c12 => ?_) (fun c12 => ?_)
   ·refine W_seq ?_
    refine W_reg ?_
    refine WO_pure (v := (.bool false)) rfl rfl ?_
    refine WO_nil ?_
    refine W_ret ?_
    refine body_ret1 rfl (v0 := (.bool false)) rfl ?_
    have hbel := (n1.below (Below.refl w.heap.size w) (Below.refl w.heap.size w).size)
    exact ⟨by unfold formB; rw [if_neg c1, fb_head c12]; rfl, hbel⟩
   ·refine W_skip ?_
    refine W_seq ?_
    refine W_cut (fun σ' w' => w1 = w' ∧ σ' 1 = (.pointer (some ⟨w.heap.size, 0, none⟩)) ∧ σ' 6 = (.int .i64 ((args.length : Int))) ∧ σ' 93 = (.bool (decide ((k = 4 ∧ 3 < args.length) ∨ (k = 6 ∧ 2 < args.length))))) ?_ ?_
    ·refine W_reg ?_
     refine WO_same (v := (.pointer (some ⟨w.heap.size, 0, none⟩))) rfl (by kernel_rfl) ?_
     refine WO_load (a := ⟨w.heap.size, 0, none⟩) (v := (.int .i64 k)) rfl rfl Tryz.underlying3 rfl (cell_of e1 rfl) ?_
     refine WO_pure (v := (.bool (decide (k = 4)))) rfl rfl ?_
     refine WO_pure (v := (.bool (decide (k = 4)))) rfl rfl ?_
     refine WO_splitp 81 (p := k = 4) (by exact rfl) (fun c13 => ?_) (fun c13 => ?_)
     ·refine WO_pure (v := (.int .i64 ((args.length : Int)))) rfl rfl ?_
      refine WO_pure (v := (.bool (decide (3 < (args.length : Int))))) rfl rfl ?_
      refine WO_pure (v := (.bool (decide (3 < (args.length : Int))))) rfl rfl ?_
      refine WO_pure (v := (.bool (decide (3 < (args.length : Int))))) rfl rfl ?_
      refine WO_splitp 85 (p := 3 < (args.length : Int)) (by exact rfl) (fun c14 => ?_) (fun c14 => ?_)
      ·refine WO_pass rfl ?_
       refine WO_pass rfl ?_
       refine WO_pass rfl ?_
       refine WO_pass rfl ?_
       refine WO_pass rfl ?_
       refine WO_pass rfl ?_
       refine WO_pass rfl ?_
       refine WO_pure (v := (.bool true)) rfl rfl ?_
       refine WO_nil ?_
       exact ⟨rfl, rfl, rfl, (by show ((.bool true) : Value) = (.bool (decide ((k = 4 ∧ 3 < args.length) ∨ (k = 6 ∧ 2 < args.length)))); show Value.bool _ = Value.bool _; rw [Value.bool.injEq, Bool.eq_iff_iff]; first | (simp [c13, c14]; done) | (simp [c13, c14]; omega) | (simp_all []; done) | (simp_all []; omega) | (simp only [Bool.or_eq_true, Bool.and_eq_true, Bool.not_eq_true', decide_eq_true_eq, decide_eq_false_iff_not]; grind))⟩
      ·refine WO_same (v := (.pointer (some ⟨w.heap.size, 0, none⟩))) rfl (by kernel_rfl) ?_
       refine WO_load (a := ⟨w.heap.size, 0, none⟩) (v := (.int .i64 k)) rfl rfl Tryz.underlying3 rfl (cell_of e1 rfl) ?_
       refine WO_pure (v := (.bool (decide (k = 6)))) rfl rfl ?_
       refine WO_pure (v := (.bool (decide (k = 6)))) rfl rfl ?_
       refine WO_splitp 89 (p := k = 6) (by exact rfl) (fun c15 => ?_) (fun c15 => ?_)
       ·refine WO_pure (v := (.int .i64 ((args.length : Int)))) rfl rfl ?_
        refine WO_pure (v := (.bool (decide (2 < (args.length : Int))))) rfl rfl ?_
        refine WO_pure (v := (.bool (decide (2 < (args.length : Int))))) rfl rfl ?_
        refine WO_pure (v := (.bool (decide (2 < (args.length : Int))))) rfl rfl ?_
        refine WO_nil ?_
        exact ⟨rfl, rfl, rfl, (by show ((.bool (decide (2 < (args.length : Int)))) : Value) = (.bool (decide ((k = 4 ∧ 3 < args.length) ∨ (k = 6 ∧ 2 < args.length)))); show Value.bool _ = Value.bool _; rw [Value.bool.injEq, Bool.eq_iff_iff]; first | (simp [c13, c14, c15]; done) | (simp [c13, c14, c15]; omega) | (simp_all []; done) | (simp_all []; omega) | (simp only [Bool.or_eq_true, Bool.and_eq_true, Bool.not_eq_true', decide_eq_true_eq, decide_eq_false_iff_not]; grind))⟩
       ·refine WO_pass rfl ?_
        refine WO_pass rfl ?_
        refine WO_pure (v := (.bool false)) rfl rfl ?_
        refine WO_pure (v := (.bool false)) rfl rfl ?_
        refine WO_nil ?_
        exact ⟨rfl, rfl, rfl, (by show ((.bool false) : Value) = (.bool (decide ((k = 4 ∧ 3 < args.length) ∨ (k = 6 ∧ 2 < args.length)))); show Value.bool _ = Value.bool _; rw [Value.bool.injEq, Bool.eq_iff_iff]; first | (simp [c13, c14, c15]; done) | (simp [c13, c14, c15]; omega) | (simp_all []; done) | (simp_all []; omega) | (simp only [Bool.or_eq_true, Bool.and_eq_true, Bool.not_eq_true', decide_eq_true_eq, decide_eq_false_iff_not]; grind))⟩
     ·refine WO_pass rfl ?_
      refine WO_pass rfl ?_
      refine WO_pure (v := (.bool false)) rfl rfl ?_
      refine WO_pure (v := (.bool false)) rfl rfl ?_
      refine WO_same (v := (.pointer (some ⟨w.heap.size, 0, none⟩))) rfl (by kernel_rfl) ?_
      refine WO_load (a := ⟨w.heap.size, 0, none⟩) (v := (.int .i64 k)) rfl rfl Tryz.underlying3 rfl (cell_of e1 rfl) ?_
      refine WO_pure (v := (.bool (decide (k = 6)))) rfl rfl ?_
      refine WO_pure (v := (.bool (decide (k = 6)))) rfl rfl ?_
      refine WO_splitp 89 (p := k = 6) (by exact rfl) (fun c16 => ?_) (fun c16 => ?_)
      ·refine WO_pure (v := (.int .i64 ((args.length : Int)))) rfl rfl ?_
       refine WO_pure (v := (.bool (decide (2 < (args.length : Int))))) rfl rfl ?_
       refine WO_pure (v := (.bool (decide (2 < (args.length : Int))))) rfl rfl ?_
       refine WO_pure (v := (.bool (decide (2 < (args.length : Int))))) rfl rfl ?_
       refine WO_nil ?_
       exact ⟨rfl, rfl, rfl, (by show ((.bool (decide (2 < (args.length : Int)))) : Value) = (.bool (decide ((k = 4 ∧ 3 < args.length) ∨ (k = 6 ∧ 2 < args.length)))); show Value.bool _ = Value.bool _; rw [Value.bool.injEq, Bool.eq_iff_iff]; first | (simp [c13, c16]; done) | (simp [c13, c16]; omega) | (simp_all []; done) | (simp_all []; omega) | (simp only [Bool.or_eq_true, Bool.and_eq_true, Bool.not_eq_true', decide_eq_true_eq, decide_eq_false_iff_not]; grind))⟩
      ·refine WO_pass rfl ?_
       refine WO_pass rfl ?_
       refine WO_pure (v := (.bool false)) rfl rfl ?_
       refine WO_pure (v := (.bool false)) rfl rfl ?_
       refine WO_nil ?_
       exact ⟨rfl, rfl, rfl, (by show ((.bool false) : Value) = (.bool (decide ((k = 4 ∧ 3 < args.length) ∨ (k = 6 ∧ 2 < args.length)))); show Value.bool _ = Value.bool _; rw [Value.bool.injEq, Bool.eq_iff_iff]; first | (simp [c13, c16]; done) | (simp [c13, c16]; omega) | (simp_all []; done) | (simp_all []; omega) | (simp only [Bool.or_eq_true, Bool.and_eq_true, Bool.not_eq_true', decide_eq_true_eq, decide_eq_false_iff_not]; grind))⟩
    ·rintro σ3 _ ⟨rfl, h3_1, h3_6, h3_93⟩
     refine W_anchor (d := 1) h3_1 (W_anchor (d := 6) h3_6 (W_anchor (d := 93) h3_93 (?_)))
     refine W_if (p := (k = 4 ∧ 3 < args.length) ∨ (k = 6 ∧ 2 < args.length)) rfl (fun c17 => ?_) (fun c17 => ?_)
     ·refine W_seq ?_
      refine W_reg ?_
      refine WO_pure (v := (.bool false)) rfl rfl ?_
      refine WO_nil ?_
      refine W_ret ?_
      refine body_ret1 rfl (v0 := (.bool false)) rfl ?_
      have hbel := (n1.below (Below.refl w.heap.size w) (Below.refl w.heap.size w).size)
      exact ⟨by unfold formB; rw [if_neg c1, fb_many c17]; rfl, hbel⟩
     ·refine W_skip ?_
      refine W_seq ?_
      refine W_seq ?_
      refine W_reg ?_
      refine WO_pure (v := (.int .i64 0)) rfl rfl ?_
      refine WO_nil ?_
      refine W_block ?_
      refine W_loop (fun g σ' w' => ∃ (i : Nat), σ' 1 = (.pointer (some ⟨w.heap.size, 0, none⟩)) ∧ σ' 6 = (.int .i64 ((args.length : Int))) ∧ σ' 7 = (.int .i64 ((i : Int))) ∧ Below w.heap.size w w' ∧ w'.heap[w.heap.size]? = some (.cells #[(.int .i64 k), (S nm), (.int .i64 op), (S ev), sv] 24 (0, 0)) ∧ i ≤ args.length ∧ argsForm k args = argsForm k (args.drop i) ∧ g = args.length - i) ?_ ?_
      ·refine ⟨_, 0, rfl, rfl, rfl, (n1.below (Below.refl w.heap.size w) (Below.refl w.heap.size w).size), e1, ?_, ?_, rfl⟩
       all_goals first | rfl | omega | simp
      ·rintro g σl1 wl1 ⟨i, l1_1, l1_6, l1_7, k1_1, k1_2, f1_1, f1_2, rfl⟩
       have z_wl1 := k1_1.size
       refine W_anchor (d := 1) l1_1 (W_anchor (d := 6) l1_6 (W_anchor (d := 7) l1_7 (?_)))
       refine W_seq ?_
       refine W_seq ?_
       refine W_reg ?_
       refine WO_pure (v := (.int .i64 ((i : Int)))) rfl rfl ?_
       refine WO_pure (v := (.int .i64 ((args.length : Int)))) rfl rfl ?_
       refine WO_pure (v := (.bool (decide ((i : Int) < (args.length : Int))))) rfl rfl ?_
       refine WO_nil ?_
       refine W_if (p := (i : Int) < (args.length : Int)) rfl (fun c18 => ?_) (fun c18 => ?_)
       ·refine W_skip ?_
        refine W_seq ?_
        refine W_block ?_
        refine W_seq ?_
        refine W_reg ?_
        refine WO_same (v := (.pointer (some ⟨w.heap.size, 4, none⟩))) rfl (by kernel_rfl) ?_
        refine WO_load (a := ⟨w.heap.size, 4, none⟩) (v := sv) rfl rfl Tryz.underlying22 rfl (cell_of k1_2 rfl) ?_
        refine WO_pure (v := (.int .i64 ((i : Int)))) rfl rfl ?_
        refine WO_idxs (v := sv) (css := css) (i := i) rfl rfl rfl (hr.ext k1_1) ha.each ha.len Tryz.underlying22 (fun _ => by kernel_rfl) (by first | rfl | omega) (by first | omega | (simp; done) | (simp; omega)) (fun b5 o5 x5 => ?_)
        refine WO_same (v := (.pointer (some ⟨b5, o5, none⟩))) rfl (by kernel_rfl) ?_
        refine WO_load (a := ⟨b5, o5, none⟩) (v := (.int .i64 ((nth args i).kind))) rfl rfl Tryz.underlying3 rfl (x5 0 _ (ArgsC.kind ha (by omega))) ?_
        refine WO_pure (v := (.int .i64 ((nth args i).kind))) rfl rfl ?_
        refine WO_nil ?_
        refine W_seq ?_
        refine W_cut (fun σ' w' => wl1 = w' ∧ σ' 1 = (.pointer (some ⟨w.heap.size, 0, none⟩)) ∧ σ' 6 = (.int .i64 ((args.length : Int))) ∧ σ' 7 = (.int .i64 ((i : Int))) ∧ σ' 119 = (.bool (decide (5 ≤ k ∧ (nth args i).kind ≠ 1 ∧ (nth args i).kind ≠ 5 ∧ (nth args i).kind ≠ 6)))) ?_ ?_
        ·refine W_reg ?_
         refine WO_same (v := (.pointer (some ⟨w.heap.size, 0, none⟩))) rfl (by kernel_rfl) ?_
         refine WO_load (a := ⟨w.heap.size, 0, none⟩) (v := (.int .i64 k)) rfl rfl Tryz.underlying3 rfl (cell_of k1_2 rfl) ?_
         refine WO_pure (v := (.bool (decide (5 ≤ k)))) rfl rfl ?_
         refine WO_pure (v := (.bool (decide (5 ≤ k)))) rfl rfl ?_
         refine WO_splitp 108 (p := 5 ≤ k) (by exact rfl) (fun c19 => ?_) (fun c19 => ?_)
         ·refine WO_pure (v := (.int .i64 ((nth args i).kind))) rfl rfl ?_
          refine WO_pure (v := (.bool (!decide (((nth args i).kind) = 1)))) rfl rfl ?_
          refine WO_pure (v := (.bool (!decide (((nth args i).kind) = 1)))) rfl rfl ?_
          refine WO_pure (v := (.bool (!decide (((nth args i).kind) = 1)))) rfl rfl ?_
          refine WO_split 112 (b := !decide (((nth args i).kind) = 1)) (by exact rfl) (fun c20 => ?_) (fun c20 => ?_)
          ·refine WO_pure (v := (.int .i64 ((nth args i).kind))) rfl rfl ?_
           refine WO_pure (v := (.bool (!decide (((nth args i).kind) = 5)))) rfl rfl ?_
           refine WO_pure (v := (.bool (!decide (((nth args i).kind) = 5)))) rfl rfl ?_
           refine WO_pure (v := (.bool (!decide (((nth args i).kind) = 5)))) rfl rfl ?_
           refine WO_split 116 (b := !decide (((nth args i).kind) = 5)) (by exact rfl) (fun c21 => ?_) (fun c21 => ?_)
           ·refine WO_pure (v := (.int .i64 ((nth args i).kind))) rfl rfl ?_
            refine WO_pure (v := (.bool (!decide (((nth args i).kind) = 6)))) rfl rfl ?_
            refine WO_pure (v := (.bool (!decide (((nth args i).kind) = 6)))) rfl rfl ?_
            refine WO_nil ?_
            exact ⟨rfl, rfl, rfl, rfl, (by show ((.bool (!decide (((nth args i).kind) = 6))) : Value) = (.bool (decide (5 ≤ k ∧ (nth args i).kind ≠ 1 ∧ (nth args i).kind ≠ 5 ∧ (nth args i).kind ≠ 6))); show Value.bool _ = Value.bool _; rw [Value.bool.injEq, Bool.eq_iff_iff]; first | (simp [c19, c20, c21]; done) | (simp [c19, c20, c21]; omega) | (simp_all []; done) | (simp_all []; omega) | (simp only [Bool.or_eq_true, Bool.and_eq_true, Bool.not_eq_true', decide_eq_true_eq, decide_eq_false_iff_not]; grind))⟩
           ·refine WO_pass rfl ?_
            refine WO_pass rfl ?_
            refine WO_pure (v := (.bool false)) rfl rfl ?_
            refine WO_nil ?_
            exact ⟨rfl, rfl, rfl, rfl, (by show ((.bool false) : Value) = (.bool (decide (5 ≤ k ∧ (nth args i).kind ≠ 1 ∧ (nth args i).kind ≠ 5 ∧ (nth args i).kind ≠ 6))); show Value.bool _ = Value.bool _; rw [Value.bool.injEq, Bool.eq_iff_iff]; first | (simp [c19, c20, c21]; done) | (simp [c19, c20, c21]; omega) | (simp_all []; done) | (simp_all []; omega) | (simp only [Bool.or_eq_true, Bool.and_eq_true, Bool.not_eq_true', decide_eq_true_eq, decide_eq_false_iff_not]; grind))⟩
          ·refine WO_pass rfl ?_
           refine WO_pass rfl ?_
           refine WO_pure (v := (.bool false)) rfl rfl ?_
           refine WO_pure (v := (.bool false)) rfl rfl ?_
           refine WO_pass rfl ?_
           refine WO_pass rfl ?_
           refine WO_pure (v := (.bool false)) rfl rfl ?_
           refine WO_nil ?_
           exact ⟨rfl, rfl, rfl, rfl, (by show ((.bool false) : Value) = (.bool (decide (5 ≤ k ∧ (nth args i).kind ≠ 1 ∧ (nth args i).kind ≠ 5 ∧ (nth args i).kind ≠ 6))); show Value.bool _ = Value.bool _; rw [Value.bool.injEq, Bool.eq_iff_iff]; first | (simp [c19, c20]; done) | (simp [c19, c20]; omega) | (simp_all []; done) | (simp_all []; omega) | (simp only [Bool.or_eq_true, Bool.and_eq_true, Bool.not_eq_true', decide_eq_true_eq, decide_eq_false_iff_not]; grind))⟩
         ·refine WO_pass rfl ?_
          refine WO_pass rfl ?_
          refine WO_pure (v := (.bool false)) rfl rfl ?_
          refine WO_pure (v := (.bool false)) rfl rfl ?_
          refine WO_pass rfl ?_
          refine WO_pass rfl ?_
          refine WO_pure (v := (.bool false)) rfl rfl ?_
          refine WO_pure (v := (.bool false)) rfl rfl ?_
          refine WO_pass rfl ?_
          refine WO_pass rfl ?_
          refine WO_pure (v := (.bool false)) rfl rfl ?_
          refine WO_nil ?_
          exact ⟨rfl, rfl, rfl, rfl, (by show ((.bool false) : Value) = (.bool (decide (5 ≤ k ∧ (nth args i).kind ≠ 1 ∧ (nth args i).kind ≠ 5 ∧ (nth args i).kind ≠ 6))); show Value.bool _ = Value.bool _; rw [Value.bool.injEq, Bool.eq_iff_iff]; first | (simp [c19]; done) | (simp [c19]; omega) | (simp_all []; done) | (simp_all []; omega) | (simp only [Bool.or_eq_true, Bool.and_eq_true, Bool.not_eq_true', decide_eq_true_eq, decide_eq_false_iff_not]; grind))⟩
        ·rintro σ4 _ ⟨rfl, h4_1, h4_6, h4_7, h4_119⟩
         refine W_anchor (d := 1) h4_1 (W_anchor (d := 6) h4_6 (W_anchor (d := 7) h4_7 (W_anchor (d := 119) h4_119 (?_))))
         refine W_if (p := 5 ≤ k ∧ (nth args i).kind ≠ 1 ∧ (nth args i).kind ≠ 5 ∧ (nth args i).kind ≠ 6) rfl (fun c22 => ?_) (fun c22 => ?_)
         ·refine W_seq ?_
          refine W_reg ?_
          refine WO_pure (v := (.bool false)) rfl rfl ?_
          refine WO_nil ?_
          refine W_ret ?_
          refine body_ret1 rfl (v0 := (.bool false)) rfl ?_
          have hbel := k1_1
          exact ⟨by unfold formB; rw [if_neg c1, fb_ok c12 c17, f1_2, argsForm_step (by omega), kind_no c22]; rfl, hbel⟩
         ·refine W_skip ?_
          refine W_seq ?_
          refine W_reg ?_
          refine WO_same (v := (.pointer (some ⟨w.heap.size, 4, none⟩))) rfl (by kernel_rfl) ?_
          refine WO_load (a := ⟨w.heap.size, 4, none⟩) (v := sv) rfl rfl Tryz.underlying22 rfl (cell_of k1_2 rfl) ?_
          refine WO_pure (v := (.int .i64 ((i : Int)))) rfl rfl ?_
          refine WO_idxs (v := sv) (css := css) (i := i) rfl rfl rfl (hr.ext k1_1) ha.each ha.len Tryz.underlying22 (fun _ => by kernel_rfl) (by first | rfl | omega) (by first | omega | (simp; done) | (simp; omega)) (fun b6 o6 x6 => ?_)
          refine WO_loads (vs := nth css i) (sz := 5) rfl rfl Tryz.underlying24 rfl (ha.each _ (nth_mem (by rw [ha.len]; omega))) (fun _ => by kernel_rfl) x6 ?_
          refine WO_call rfl (by exact en_25) (ih i (by omega) _ _ (ArgsC.at (ArgsC.ext k1_1 args css ha) i (by omega)) (by have := argsSize_nth (show i < args.length by omega); omega)) ?_
          rintro _ w7 ⟨rfl, h7⟩
          have z_w7 := h7.size
          refine WO_pure (v := (.bool (formB (nth args i)))) rfl rfl ?_
          refine WO_nil ?_
          refine W_seq ?_
          refine W_reg ?_
          refine WO_pure (v := (.bool (formB (nth args i)))) rfl rfl ?_
          refine WO_pure (v := (.bool (!(formB (nth args i))))) rfl rfl ?_
          refine WO_nil ?_
          refine W_cond (t := !(formB (nth args i))) rfl (fun c23 => ?_) (fun c23 => ?_)
          ·refine W_seq ?_
           refine W_reg ?_
           refine WO_pure (v := (.bool false)) rfl rfl ?_
           refine WO_nil ?_
           refine W_ret ?_
           refine body_ret1 rfl (v0 := (.bool false)) rfl ?_
           have hbel := (below_ext k1_1 h7)
           exact ⟨by unfold formB; rw [if_neg c1, fb_ok c12 c17, f1_2, argsForm_step (by omega), kind_yes c22, show formB (nth args i) = false by simpa using c23]; rfl, hbel⟩
          ·refine W_skip ?_
           refine W_reg ?_
           refine WO_pure (v := (.int .i64 ((i : Int)))) rfl rfl ?_
           refine WO_add (b := 1) (v := (i : Int) + 1) rfl rfl rfl (by simp only [kLo, kHi]; omega) ?_
           refine WO_pure (v := (.int .i64 ((i : Int) + 1))) rfl rfl ?_
           refine WO_nil ?_
           refine ⟨_, ?_, i + 1, rfl, rfl, rfl, (below_ext k1_1 h7), (below_keep h7 k1_2), ?_, ?_, rfl⟩
           ·first | omega | assumption
           ·omega
           ·rw [f1_2, argsForm_step (by omega), kind_yes c22, show formB (nth args i) = true by simpa using c23]; rfl
       ·refine W_exit ?_
        refine W_seq ?_
        refine W_reg ?_
        refine WO_pure (v := (.bool true)) rfl rfl ?_
        refine WO_nil ?_
        refine W_ret ?_
        refine body_ret1 rfl (v0 := (.bool true)) rfl ?_
        have hbel := k1_1
        exact ⟨by unfold formB; rw [if_neg c1, fb_ok c12 c17, f1_2, List.drop_of_length_le (by omega)]; rfl, hbel⟩
theorem refForm_any (d : DepT) : FormSaid 25 d := by
 refine dep_all (C := fun d => FormSaid 25 d) (fun k nm op ev args ih => ?_) d
 intro w cs h hs
 unfold DepC at h
 obtain ⟨sv, css, rfl, hr, ha⟩ := h
 unfold DepT.size at hs
 exact refForm_step k op nm ev args sv css w hr ha (by omega) ih
def checkE (d : DepT) : Int := if formB d then (if 16 < partsN d then 51 else 0) else 50
set_option maxHeartbeats 400000 in
set_option maxRecDepth 100000 in
theorem refCheck_step (k op : Int) (nm ev : List UInt8) (args : List DepT) (sv : Value) (css : List (List Value)) (w : World) (hr : RowIs w sv args.length 5 css.flatten) (ha : ArgsC w args css) (hs : argsSize args + 1 + nm.length + ev.length ≤ 4194304) :
  Calls Tryz.prog 13 #[(.agg #[(.int .i64 k), (S nm), (.int .i64 op), (S ev), sv])] w (Ret fun v w' => v = .int .i64 (checkE (.mk k nm op ev args)) ∧ Below w.heap.size w w') := by
 have hd0 : DepC w (.mk k nm op ev args) [.int .i64 k, S nm, .int .i64 op, S ev, sv] := by unfold DepC; exact ⟨sv, css, rfl, hr, ha⟩
 refine calls_W Tryz.func13 rfl Tryz.ntmps13 ?_
 refine W_seq ?_
 refine W_reg ?_
 refine WO_box (v := (.agg #[(.int .i64 k), (S nm), (.int .i64 op), (S ev), sv])) rfl rfl (fun w1 n1 => ?_)
 have e1 : w1.heap[w.heap.size]? = some (.cells #[(.int .i64 k), (S nm), (.int .i64 op), (S ev), sv] 24 (0, 0)) := n1.here
 have z1 := n1.size
 refine WO_pure (v := (.int .i64 0)) rfl rfl ?_
 refine WO_nil ?_
 refine W_seq ?_
 refine W_reg ?_
 refine WO_loadrow (b := w.heap.size) (o := 0) (m := 5) (c := #[(.int .i64 k), (S nm), (.int .i64 op), (S ev), sv]) rfl rfl Tryz.underlying24 rfl (fun _ => by kernel_rfl) e1 (by simp) ?_
 refine WO_eq 4 (v' := (.agg #[(.int .i64 k), (S nm), (.int .i64 op), (S ev), sv])) rfl rfl ?_
 refine WO_call rfl (by exact en_25) (refForm_any (.mk k nm op ev args) _ _ (hd0.ext (n1.below (Below.refl w.heap.size w) (Below.refl w.heap.size w).size) _ _) (by unfold DepT.size; omega)) ?_
 rintro _ w2 ⟨rfl, h2⟩
 have z_w2 := h2.size
 refine WO_pure (v := (.bool (formB (.mk k nm op ev args)))) rfl rfl ?_
 refine WO_nil ?_
 refine W_seq ?_
 refine W_seq ?_
 refine W_reg ?_
 refine WO_pure (v := (.bool (formB (.mk k nm op ev args)))) rfl rfl ?_
 refine WO_pure (v := (.bool (!(formB (.mk k nm op ev args))))) rfl rfl ?_
 refine WO_nil ?_
 refine W_cond (t := !(formB (.mk k nm op ev args))) rfl (fun c1 => ?_) (fun c1 => ?_)
 ·refine W_seq ?_
  refine W_reg ?_
  refine WO_pure (v := (.int .i64 50)) rfl rfl ?_
  refine WO_nil ?_
  refine W_ret ?_
  refine body_ret1 rfl (v0 := (.int .i64 50)) rfl ?_
  have hbel := (below_ext (n1.below (Below.refl w.heap.size w) (Below.refl w.heap.size w).size) h2)
  exact ⟨by unfold checkE; rw [show formB (.mk k nm op ev args) = false by simpa using c1]; rfl, hbel⟩
 ·refine W_skip ?_
  refine W_seq ?_
  refine W_seq ?_
  refine W_reg ?_
  refine WO_loadrow (b := w.heap.size) (o := 0) (m := 5) (c := #[(.int .i64 k), (S nm), (.int .i64 op), (S ev), sv]) rfl rfl Tryz.underlying24 rfl (fun _ => by kernel_rfl) (below_keep h2 e1) (by simp) ?_
  refine WO_eq 8 (v' := (.agg #[(.int .i64 k), (S nm), (.int .i64 op), (S ev), sv])) rfl rfl ?_
  refine WO_call rfl (by exact en_26) (parts_any (.mk k nm op ev args) _ _ (hd0.ext (below_ext (n1.below (Below.refl w.heap.size w) (Below.refl w.heap.size w).size) h2) _ _) (by unfold DepT.size; omega)) ?_
  rintro _ w3 ⟨rfl, h3⟩
  have z_w3 := h3.size
  refine WO_pure (v := (.bool (decide (16 < (partsN (.mk k nm op ev args) : Int))))) rfl rfl ?_
  refine WO_nil ?_
  refine W_if (p := 16 < (partsN (.mk k nm op ev args) : Int)) rfl (fun c2 => ?_) (fun c2 => ?_)
  ·refine W_seq ?_
   refine W_reg ?_
   refine WO_pure (v := (.int .i64 51)) rfl rfl ?_
   refine WO_nil ?_
   refine W_ret ?_
   refine body_ret1 rfl (v0 := (.int .i64 51)) rfl ?_
   have hbel := (below_ext (below_ext (n1.below (Below.refl w.heap.size w) (Below.refl w.heap.size w).size) h2) h3)
   exact ⟨by unfold checkE; rw [show formB (.mk k nm op ev args) = true by simpa using c1, if_pos rfl, if_pos (by omega)], hbel⟩
  ·refine W_skip ?_
   refine W_seq ?_
   refine W_reg ?_
   refine WO_pure (v := (.int .i64 0)) rfl rfl ?_
   refine WO_nil ?_
   refine W_ret ?_
   refine body_ret1 rfl (v0 := (.int .i64 0)) rfl ?_
   have hbel := (below_ext (below_ext (n1.below (Below.refl w.heap.size w) (Below.refl w.heap.size w).size) h2) h3)
   exact ⟨by unfold checkE; rw [show formB (.mk k nm op ev args) = true by simpa using c1, if_pos rfl, if_neg (by omega)], hbel⟩
theorem refCheck_any {w : World} (d : DepT) (cs : List Value) (h : DepC w d cs) (hs : d.size ≤ 4194304) : Calls Tryz.prog 13 #[.agg cs.toArray] w (Ret fun v w' => v = .int .i64 (checkE d) ∧ Below w.heap.size w w') := by
 cases d with
 | mk k nm op ev args =>
  unfold DepC at h
  obtain ⟨sv, css, rfl, hr, ha⟩ := h
  unfold DepT.size at hs
  exact refCheck_step k op nm ev args sv css w hr ha (by omega)
end Go.Proofs.YtaegacblpbbndaaGreatDoor
end
section
namespace Go.Proofs.YtaegacblpbbndaaGreatDoor
open Go Go.RowKit
theorem en_23 : Enters Tryz.prog 23 := enters_of Tryz.func23 (by kernel_rfl) rfl
theorem en_43 : Enters Tryz.prog 43 := enters_of Tryz.func43 (by kernel_rfl) rfl
theorem en_42 : Enters Tryz.prog 42 := enters_of Tryz.func42 (by kernel_rfl) rfl
theorem en_71 : Enters Tryz.prog 71 := enters_of Tryz.func71 (by kernel_rfl) rfl
theorem en_18 : Enters Tryz.prog 18 := enters_of Tryz.func18 (by kernel_rfl) rfl
theorem en_12 : Enters Tryz.prog 12 := enters_of Tryz.func12 (by kernel_rfl) rfl
theorem en_24 : Enters Tryz.prog 24 := enters_of Tryz.func24 (by kernel_rfl) rfl
def TellsD (f : FuncId) (cap : Array Value) (w : World) (css : List (List Value)) (args : List DepT) (p : DepT → Bool) : Prop :=
 ∀ i, i < args.length → ∀ w', Below w.heap.size w w' → Calls Tryz.prog f (.agg (nth css i).toArray :: cap.toList).toArray w' (Ret fun v w'' => v = .bool (p (nth args i)) ∧ Below w'.heap.size w' w'')
theorem any_step {p : DepT → Bool} {l : List DepT} {i : Nat} (h : i < l.length) : (l.drop i).any p = (p (nth l i) || (l.drop (i + 1)).any p) := by rw [drop_nth h, List.any_cons]
set_option maxHeartbeats 400000 in
set_option maxRecDepth 100000 in
theorem indexD_any (sv : Value) (args : List DepT) (css : List (List Value)) (f : FuncId) (cap : Array Value) (p : DepT → Bool) (w : World) (hr : RowIs w sv args.length 5 css.flatten) (ha : ArgsC w args css) (he : Enters Tryz.prog f) (ht : TellsD f cap w css args p) (hl : args.length ≤ 9223372036854775807) :
  Calls Tryz.prog 71 #[sv, (.func (.func f) #[] cap)] w (Ret fun v w' => (∃ z : Int, v = .int .i64 z ∧ decide (0 ≤ z) = args.any p) ∧ Below w.heap.size w w') := by
 refine calls_W Tryz.func71 rfl Tryz.ntmps71 ?_
 refine W_seq ?_
 refine W_reg ?_
 refine WO_pure (v := (.int .i64 0)) rfl rfl ?_
 refine WO_nil ?_
 refine W_seq ?_
 refine W_seq ?_
 refine W_reg ?_
 refine WO_pure (v := sv) rfl rfl ?_
 refine WO_lenrow (v := sv) (m := args.length) (sz := 5) rfl rfl hr Tryz.underlying22 ?_
 refine WO_pure (v := (.int .i64 0)) rfl rfl ?_
 refine WO_nil ?_
 refine W_block ?_
 refine W_loop (fun g σ' w' => ∃ (i : Nat), σ' 0 = sv ∧ σ' 1 = (.func (.func f) #[] cap) ∧ σ' 7 = (.int .i64 ((args.length : Int))) ∧ σ' 8 = (.int .i64 ((i : Int))) ∧ Below w.heap.size w w' ∧ i ≤ args.length ∧ args.any p = (args.drop i).any p ∧ g = args.length - i) ?_ ?_
 ·refine ⟨_, 0, rfl, rfl, rfl, rfl, (Below.refl w.heap.size w), ?_, ?_, rfl⟩
  all_goals first | rfl | omega | simp
 ·rintro g σl1 wl1 ⟨i, l1_0, l1_1, l1_7, l1_8, k1_1, f1_1, f1_2, rfl⟩
  have z_wl1 := k1_1.size
  refine W_anchor (d := 0) l1_0 (W_anchor (d := 1) l1_1 (W_anchor (d := 7) l1_7 (W_anchor (d := 8) l1_8 (?_))))
  refine W_seq ?_
  refine W_reg ?_
  refine WO_pure (v := (.bool (decide ((i : Int) < (args.length : Int))))) rfl rfl ?_
  refine WO_nil ?_
  refine W_seq ?_
  refine W_if (p := (i : Int) < (args.length : Int)) rfl (fun c1 => ?_) (fun c1 => ?_)
  ·refine W_skip ?_
   refine W_seq ?_
   refine W_block ?_
   refine W_seq ?_
   refine W_reg ?_
   refine WO_pure (v := (.int .i64 ((i : Int)))) rfl rfl ?_
   refine WO_pure (v := (.int .i64 ((i : Int)))) rfl rfl ?_
   refine WO_nil ?_
   refine W_seq ?_
   refine W_reg ?_
   refine WO_pure (v := (.func (.func f) #[] cap)) rfl rfl ?_
   refine WO_pure (v := sv) rfl rfl ?_
   refine WO_pure (v := (.int .i64 ((i : Int)))) rfl rfl ?_
   refine WO_idxs (v := sv) (css := css) (i := i) rfl rfl rfl (hr.ext k1_1) ha.each ha.len Tryz.underlying22 (fun _ => by kernel_rfl) (by first | rfl | omega) (by first | omega | (simp; done) | (simp; omega)) (fun b1 o1 x1 => ?_)
   refine WO_loads (vs := nth css i) (sz := 5) rfl rfl Tryz.underlying24 rfl (ha.each _ (nth_mem (by rw [ha.len]; omega))) (fun _ => by kernel_rfl) x1 ?_
   refine WO_callv rfl rfl he (ht i (by omega) _ k1_1) ?_
   rintro _ w2 ⟨rfl, h2⟩
   have z_w2 := h2.size
   refine WO_nil ?_
   refine W_cond (t := p (nth args i)) rfl (fun c2 => ?_) (fun c2 => ?_)
   ·refine W_seq ?_
    refine W_reg ?_
    refine WO_pure (v := (.int .i64 ((i : Int)))) rfl rfl ?_
    refine WO_pure (v := (.int .i64 ((i : Int)))) rfl rfl ?_
    refine WO_nil ?_
    refine W_ret ?_
    refine body_ret1 rfl (v0 := (.int .i64 ((i : Int)))) rfl ?_
    have hbel := (below_ext k1_1 h2)
    exact ⟨⟨_, rfl, by rw [f1_2, any_step (by omega), show p (nth args i) = true from c2]; simp⟩, hbel⟩
   ·refine W_skip ?_
    refine W_reg ?_
    refine WO_add (b := 1) (v := (i : Int) + 1) rfl rfl rfl (by simp only [kLo, kHi]; omega) ?_
    refine WO_pure (v := (.int .i64 ((i : Int) + 1))) rfl rfl ?_
    refine WO_nil ?_
    refine ⟨_, ?_, i + 1, rfl, rfl, rfl, rfl, (below_ext k1_1 h2), ?_, ?_, rfl⟩
    ·first | omega | assumption
    ·omega
    ·rw [f1_2, any_step (by omega), show p (nth args i) = false from c2]; rfl
  ·refine W_exit ?_
   refine W_seq ?_
   refine W_reg ?_
   refine WO_pure (v := (.int .i64 (-1))) rfl rfl ?_
   refine WO_nil ?_
   refine W_ret ?_
   refine body_ret1 rfl (v0 := (.int .i64 (-1))) rfl ?_
   have hbel := k1_1
   exact ⟨⟨_, rfl, by rw [f1_2, List.drop_of_length_le (by omega)]; rfl⟩, hbel⟩
set_option maxHeartbeats 400000 in
set_option maxRecDepth 100000 in
theorem containsD_any (sv : Value) (args : List DepT) (css : List (List Value)) (f : FuncId) (cap : Array Value) (p : DepT → Bool) (w : World) (hr : RowIs w sv args.length 5 css.flatten) (ha : ArgsC w args css) (he : Enters Tryz.prog f) (ht : TellsD f cap w css args p) (hl : args.length ≤ 9223372036854775807) :
  Calls Tryz.prog 42 #[sv, (.func (.func f) #[] cap)] w (Ret fun v w' => v = .bool (args.any p) ∧ Below w.heap.size w w') := by
 refine calls_W Tryz.func42 rfl Tryz.ntmps42 ?_
 refine W_seq ?_
 refine W_reg ?_
 refine WO_pure (v := (.bool false)) rfl rfl ?_
 refine WO_nil ?_
 refine W_seq ?_
 refine W_reg ?_
 refine WO_pure (v := sv) rfl rfl ?_
 refine WO_pure (v := (.func (.func f) #[] cap)) rfl rfl ?_
 refine WO_call rfl (by exact en_71) (indexD_any sv args css f cap p _ hr ha he ht hl) ?_
 rintro _ wi ⟨⟨z, rfl, ez⟩, hi⟩
 have z_wi := hi.size
 refine WO_pure (v := (.bool (decide (0 ≤ z)))) rfl rfl ?_
 refine WO_pure (v := (.bool (decide (0 ≤ z)))) rfl rfl ?_
 refine WO_nil ?_
 refine W_ret ?_
 refine body_ret1 rfl (v0 := (.bool (decide (0 ≤ z)))) rfl ?_
 have hbel := (below_ext (Below.refl w.heap.size w) hi)
 exact ⟨by rw [← ez], hbel⟩
def formP (k : Int) (d : DepT) : Bool := !(kindOK k d.kind && formB d)
set_option maxHeartbeats 400000 in
set_option maxRecDepth 100000 in
theorem formc_step (k op : Int) (nm ev : List UInt8) (args : List DepT) (sv : Value) (css : List (List Value)) (pb : Nat) (k0 : Int) (x1 x2 x3 x4 : Value) (w : World) (hp : w.heap[pb]? = some (.cells #[.int .i64 k0, x1, x2, x3, x4] 24 (0, 0))) (hr : RowIs w sv args.length 5 css.flatten) (ha : ArgsC w args css) (ih : FormSaid 23 (.mk k nm op ev args)) (hs : (DepT.mk k nm op ev args).size ≤ 4194304) :
  Calls Tryz.prog 43 #[(.agg #[(.int .i64 k), (S nm), (.int .i64 op), (S ev), sv]), (.pointer (some ⟨pb, 0, none⟩))] w (Ret fun v w' => v = .bool (formP k0 (.mk k nm op ev args)) ∧ Below w.heap.size w w') := by
 have hd0 : DepC w (.mk k nm op ev args) [.int .i64 k, S nm, .int .i64 op, S ev, sv] := by unfold DepC; exact ⟨sv, css, rfl, hr, ha⟩
 refine calls_W Tryz.func43 rfl Tryz.ntmps43 ?_
 refine W_seq ?_
 refine W_reg ?_
 refine WO_box (v := (.agg #[(.int .i64 k), (S nm), (.int .i64 op), (S ev), sv])) rfl rfl (fun w1 n1 => ?_)
 have e1 : w1.heap[w.heap.size]? = some (.cells #[(.int .i64 k), (S nm), (.int .i64 op), (S ev), sv] 24 (0, 0)) := n1.here
 have z1 := n1.size
 refine WO_pure (v := (.bool false)) rfl rfl ?_
 refine WO_nil ?_
 refine W_cut (fun σ' w' => w1 = w' ∧ σ' 1 = (.pointer (some ⟨pb, 0, none⟩)) ∧ σ' 2 = (.pointer (some ⟨w.heap.size, 0, none⟩)) ∧ σ' 4 = (.bool (decide (k = 1 ∨ k = 5 ∨ k = 6)))) ?_ ?_
 ·refine W_reg ?_
  refine WO_same (v := (.pointer (some ⟨w.heap.size, 0, none⟩))) rfl (by kernel_rfl) ?_
  refine WO_load (a := ⟨w.heap.size, 0, none⟩) (v := (.int .i64 k)) rfl rfl Tryz.underlying3 rfl (cell_of e1 rfl) ?_
  refine WO_pure (v := (.bool (decide (k = 1)))) rfl rfl ?_
  refine WO_pure (v := (.bool (decide (k = 1)))) rfl rfl ?_
  refine WO_splitp 8 (p := k = 1) (by exact rfl) (fun c1 => ?_) (fun c1 => ?_)
  ·refine WO_pass rfl ?_
   refine WO_pass rfl ?_
   refine WO_pass rfl ?_
   refine WO_pure (v := (.bool true)) rfl rfl ?_
   refine WO_pure (v := (.bool true)) rfl rfl ?_
   refine WO_pass rfl ?_
   refine WO_pass rfl ?_
   refine WO_pass rfl ?_
   refine WO_pure (v := (.bool true)) rfl rfl ?_
   refine WO_pure (v := (.bool true)) rfl rfl ?_
   refine WO_nil ?_
   exact ⟨rfl, rfl, rfl, (by show ((.bool true) : Value) = (.bool (decide (k = 1 ∨ k = 5 ∨ k = 6))); show Value.bool _ = Value.bool _; rw [Value.bool.injEq, Bool.eq_iff_iff]; first | (simp [c1]; done) | (simp [c1]; omega) | (simp_all []; done) | (simp_all []; omega) | (simp only [Bool.or_eq_true, Bool.and_eq_true, Bool.not_eq_true', decide_eq_true_eq, decide_eq_false_iff_not]; grind))⟩
  ·refine WO_same (v := (.pointer (some ⟨w.heap.size, 0, none⟩))) rfl (by kernel_rfl) ?_
   refine WO_load (a := ⟨w.heap.size, 0, none⟩) (v := (.int .i64 k)) rfl rfl Tryz.underlying3 rfl (cell_of e1 rfl) ?_
   refine WO_pure (v := (.bool (decide (k = 5)))) rfl rfl ?_
   refine WO_pure (v := (.bool (decide (k = 5)))) rfl rfl ?_
   refine WO_pure (v := (.bool (decide (k = 5)))) rfl rfl ?_
   refine WO_splitp 13 (p := k = 5) (by exact rfl) (fun c2 => ?_) (fun c2 => ?_)
   ·refine WO_pass rfl ?_
    refine WO_pass rfl ?_
    refine WO_pass rfl ?_
    refine WO_pure (v := (.bool true)) rfl rfl ?_
    refine WO_pure (v := (.bool true)) rfl rfl ?_
    refine WO_nil ?_
    exact ⟨rfl, rfl, rfl, (by show ((.bool true) : Value) = (.bool (decide (k = 1 ∨ k = 5 ∨ k = 6))); show Value.bool _ = Value.bool _; rw [Value.bool.injEq, Bool.eq_iff_iff]; first | (simp [c1, c2]; done) | (simp [c1, c2]; omega) | (simp_all []; done) | (simp_all []; omega) | (simp only [Bool.or_eq_true, Bool.and_eq_true, Bool.not_eq_true', decide_eq_true_eq, decide_eq_false_iff_not]; grind))⟩
   ·refine WO_same (v := (.pointer (some ⟨w.heap.size, 0, none⟩))) rfl (by kernel_rfl) ?_
    refine WO_load (a := ⟨w.heap.size, 0, none⟩) (v := (.int .i64 k)) rfl rfl Tryz.underlying3 rfl (cell_of e1 rfl) ?_
    refine WO_pure (v := (.bool (decide (k = 6)))) rfl rfl ?_
    refine WO_pure (v := (.bool (decide (k = 6)))) rfl rfl ?_
    refine WO_pure (v := (.bool (decide (k = 6)))) rfl rfl ?_
    refine WO_nil ?_
    exact ⟨rfl, rfl, rfl, (by show ((.bool (decide (k = 6))) : Value) = (.bool (decide (k = 1 ∨ k = 5 ∨ k = 6))); show Value.bool _ = Value.bool _; rw [Value.bool.injEq, Bool.eq_iff_iff]; first | (simp [c1, c2]; done) | (simp [c1, c2]; omega) | (simp_all []; done) | (simp_all []; omega) | (simp only [Bool.or_eq_true, Bool.and_eq_true, Bool.not_eq_true', decide_eq_true_eq, decide_eq_false_iff_not]; grind))⟩
 ·rintro σ1 _ ⟨rfl, h1_1, h1_2, h1_4⟩
  refine W_anchor (d := 1) h1_1 (W_anchor (d := 2) h1_2 (W_anchor (d := 4) h1_4 (?_)))
  refine W_cut (fun σ' w' => Below w1.heap.size w1 w' ∧ σ' 3 = (.bool (formP k0 (.mk k nm op ev args)))) ?_ ?_
  ·refine W_reg ?_
   refine WO_same (v := (.pointer (some ⟨pb, 0, none⟩))) rfl (by kernel_rfl) ?_
   refine WO_load (a := ⟨pb, 0, none⟩) (v := (.int .i64 k0)) rfl rfl Tryz.underlying3 rfl (cell_of (n1.keep hp) rfl) ?_
   refine WO_pure (v := (.bool (decide (5 ≤ k0)))) rfl rfl ?_
   refine WO_pure (v := (.bool (decide (5 ≤ k0)))) rfl rfl ?_
   refine WO_splitp 21 (p := 5 ≤ k0) (by exact rfl) (fun c3 => ?_) (fun c3 => ?_)
   ·refine WO_pure (v := (.bool (decide (k = 1 ∨ k = 5 ∨ k = 6)))) rfl rfl ?_
    refine WO_pure (v := (.bool (!(decide (k = 1 ∨ k = 5 ∨ k = 6))))) rfl rfl ?_
    refine WO_pure (v := (.bool (!(decide (k = 1 ∨ k = 5 ∨ k = 6))))) rfl rfl ?_
    refine WO_pure (v := (.bool (!(decide (k = 1 ∨ k = 5 ∨ k = 6))))) rfl rfl ?_
    refine WO_split 25 (b := !(decide (k = 1 ∨ k = 5 ∨ k = 6))) (by exact rfl) (fun c4 => ?_) (fun c4 => ?_)
    ·refine WO_pass rfl ?_
     refine WO_pass rfl ?_
     refine WO_pass rfl ?_
     refine WO_pure (v := (.bool true)) rfl rfl ?_
     refine WO_pure (v := (.bool true)) rfl rfl ?_
     refine WO_nil ?_
     exact ⟨(Below.refl w1.heap.size w1), (by show ((.bool true) : Value) = (.bool (formP k0 (.mk k nm op ev args))); show Value.bool _ = Value.bool _; rw [Value.bool.injEq, Bool.eq_iff_iff]; first | (simp [formP, kindOK, DepT.kind, c3, c4]; done) | (simp [formP, kindOK, DepT.kind, c3, c4]; omega) | (simp_all [formP, kindOK, DepT.kind]; done) | (simp_all [formP, kindOK, DepT.kind]; omega) | (simp only [formP, kindOK, DepT.kind, Bool.or_eq_true, Bool.and_eq_true, Bool.not_eq_true', decide_eq_true_eq, decide_eq_false_iff_not]; grind))⟩
    ·refine WO_loadrow (b := w.heap.size) (o := 0) (m := 5) (c := #[(.int .i64 k), (S nm), (.int .i64 op), (S ev), sv]) rfl rfl Tryz.underlying24 rfl (fun _ => by kernel_rfl) e1 (by simp) ?_
     refine WO_eq 26 (v' := (.agg #[(.int .i64 k), (S nm), (.int .i64 op), (S ev), sv])) rfl rfl ?_
     refine WO_call rfl (by exact en_23) (ih _ _ (hd0.ext (n1.below (Below.refl w.heap.size w) (Below.refl w.heap.size w).size) _ _) hs) ?_
     rintro _ w2 ⟨rfl, h2⟩
     have z_w2 := h2.size
     refine WO_pure (v := (.bool (!(formB (.mk k nm op ev args))))) rfl rfl ?_
     refine WO_pure (v := (.bool (!(formB (.mk k nm op ev args))))) rfl rfl ?_
     refine WO_pure (v := (.bool (!(formB (.mk k nm op ev args))))) rfl rfl ?_
     refine WO_nil ?_
     exact ⟨(below_ext (Below.refl w1.heap.size w1) h2), (by show ((.bool (!(formB (.mk k nm op ev args)))) : Value) = (.bool (formP k0 (.mk k nm op ev args))); show Value.bool _ = Value.bool _; rw [Value.bool.injEq, Bool.eq_iff_iff]; first | (simp [formP, kindOK, DepT.kind, c3, c4]; done) | (simp [formP, kindOK, DepT.kind, c3, c4]; omega) | (simp_all [formP, kindOK, DepT.kind]; done) | (simp_all [formP, kindOK, DepT.kind]; omega) | (simp only [formP, kindOK, DepT.kind, Bool.or_eq_true, Bool.and_eq_true, Bool.not_eq_true', decide_eq_true_eq, decide_eq_false_iff_not]; grind))⟩
   ·refine WO_pass rfl ?_
    refine WO_pass rfl ?_
    refine WO_pure (v := (.bool false)) rfl rfl ?_
    refine WO_pure (v := (.bool false)) rfl rfl ?_
    refine WO_loadrow (b := w.heap.size) (o := 0) (m := 5) (c := #[(.int .i64 k), (S nm), (.int .i64 op), (S ev), sv]) rfl rfl Tryz.underlying24 rfl (fun _ => by kernel_rfl) e1 (by simp) ?_
    refine WO_eq 26 (v' := (.agg #[(.int .i64 k), (S nm), (.int .i64 op), (S ev), sv])) rfl rfl ?_
    refine WO_call rfl (by exact en_23) (ih _ _ (hd0.ext (n1.below (Below.refl w.heap.size w) (Below.refl w.heap.size w).size) _ _) hs) ?_
    rintro _ w3 ⟨rfl, h3⟩
    have z_w3 := h3.size
    refine WO_pure (v := (.bool (!(formB (.mk k nm op ev args))))) rfl rfl ?_
    refine WO_pure (v := (.bool (!(formB (.mk k nm op ev args))))) rfl rfl ?_
    refine WO_pure (v := (.bool (!(formB (.mk k nm op ev args))))) rfl rfl ?_
    refine WO_nil ?_
    exact ⟨(below_ext (Below.refl w1.heap.size w1) h3), (by show ((.bool (!(formB (.mk k nm op ev args)))) : Value) = (.bool (formP k0 (.mk k nm op ev args))); show Value.bool _ = Value.bool _; rw [Value.bool.injEq, Bool.eq_iff_iff]; first | (simp [formP, kindOK, DepT.kind, c3]; done) | (simp [formP, kindOK, DepT.kind, c3]; omega) | (simp_all [formP, kindOK, DepT.kind]; done) | (simp_all [formP, kindOK, DepT.kind]; omega) | (simp only [formP, kindOK, DepT.kind, Bool.or_eq_true, Bool.and_eq_true, Bool.not_eq_true', decide_eq_true_eq, decide_eq_false_iff_not]; grind))⟩
  ·rintro σ2 wc2 ⟨hc2, h2_3⟩
   have z_wc2 := hc2.size
   refine W_anchor (d := 3) h2_3 (?_)
   refine W_ret ?_
   refine body_ret1 rfl (v0 := (.bool (formP k0 (.mk k nm op ev args)))) rfl ?_
   have hbel := (below_ext (n1.below (Below.refl w.heap.size w) (Below.refl w.heap.size w).size) hc2)
   exact ⟨rfl, hbel⟩
theorem tells_form {k : Int} {args : List DepT} {css : List (List Value)} {w : World} {b : Nat} {x1 x2 x3 x4 : Value} (ih : ∀ i, i < args.length → FormSaid 23 (nth args i)) (hs : argsSize args ≤ 4194304) (hp : w.heap[b]? = some (.cells #[.int .i64 k, x1, x2, x3, x4] 24 (0, 0))) (ha : ArgsC w args css) : TellsD 43 #[.pointer (some ⟨b, 0, none⟩)] w css args (formP k) := by
 intro i hi w' hb
 have h1 := ArgsC.at (ArgsC.ext hb args css ha) i hi
 have h2 := ih i hi
 have h3 := argsSize_nth hi
 cases hd : nth args i with
 | mk k' nm op ev bs =>
  rw [hd] at h1 h2 h3
  unfold DepC at h1
  obtain ⟨sv, cs, e, hr, hc⟩ := h1
  rw [e]
  exact formc_step k' op nm ev bs sv cs b k x1 x2 x3 x4 w' (below_keep hb hp) hr hc h2 (by omega)
def mostN (k : Int) : Int := if k = 4 then 3 else if k = 6 then 2 else 0
theorem most_look (k : Int) : ((alook (aput (aput ([] : List (Int × Int)) 4 3) 6 2) k).map I64).getD (.int .i64 0) = .int .i64 (mostN k) := by
 have e : aput (aput ([] : List (Int × Int)) 4 3) 6 2 = [(4, 3), (6, 2)] := rfl
 rw [e]
 unfold alook mostN
 by_cases h1 : k = 4
 ·subst h1; rfl
 ·by_cases h2 : k = 6
  ·subst h2; rfl
  ·simp [h1, h2]
theorem form_bad {k : Int} {nm ev : List UInt8} {op : Int} {n : Nat} : formBad k nm op ev n = decide ((k < 2 ∨ 6 < k ∨ nm ≠ [] ∨ op ≠ 0 ∨ ev ≠ [] ∨ n < 2) ∨ (0 < mostN k ∧ mostN k < (n : Int))) := by
 unfold formBad mostN
 rw [decide_eq_decide]
 refine or_congr Iff.rfl ?_
 by_cases h1 : k = 4
 ·subst h1; simp <;> omega
 ·by_cases h2 : k = 6
  ·subst h2; simp <;> omega
  ·simp [h1, h2]
theorem form_name {nm ev : List UInt8} {op : Int} {n : Nat} : formName nm op ev n = decide (nameB nm = true ∧ n = 0 ∧ (op = 0 ∧ ev = [] ∨ (1 ≤ op ∧ op ≤ 7) ∧ evrE ev = 0)) := by
 rw [Bool.eq_iff_iff, decide_eq_true_eq]
 unfold formName
 by_cases h : op = 0
 ·subst h; simp
 ·simp only [Bool.and_eq_true, decide_eq_true_eq, if_neg h]
  constructor
  ·rintro ⟨a, b, c, d, e⟩; exact ⟨a, d, .inr ⟨⟨by omega, c⟩, e⟩⟩
  ·rintro ⟨a, d, (⟨b, _⟩ | ⟨⟨b, c⟩, e⟩)⟩
   ·exact absurd b h
   ·exact ⟨a, by omega, c, d, e⟩
theorem args_any {k : Int} : ∀ {l : List DepT}, (l.any (formP k)) = !argsForm k l
 | [] => rfl
 | d :: r => by
  rw [List.any_cons, args_any, argsForm]
  unfold formP
  cases kindOK k d.kind <;> cases formB d <;> simp
set_option maxHeartbeats 1000000 in
set_option maxRecDepth 100000 in
theorem form_step (k op : Int) (nm ev : List UInt8) (args : List DepT) (sv : Value) (css : List (List Value)) (w : World) (hr : RowIs w sv args.length 5 css.flatten) (ha : ArgsC w args css) (hs : argsSize args + 1 + nm.length + ev.length ≤ 4194304) (ih : ∀ i, i < args.length → FormSaid 23 (nth args i)) :
  Calls Tryz.prog 23 #[(.agg #[(.int .i64 k), (S nm), (.int .i64 op), (S ev), sv])] w (Ret fun v w' => v = .bool (formB (.mk k nm op ev args)) ∧ Below w.heap.size w w') := by
 have hal := argsSize_len args
 refine calls_W Tryz.func23 rfl Tryz.ntmps23 ?_
 refine W_seq ?_
 refine W_reg ?_
 refine WO_box (v := (.agg #[(.int .i64 k), (S nm), (.int .i64 op), (S ev), sv])) rfl rfl (fun w1 n1 => ?_)
 have e1 : w1.heap[w.heap.size]? = some (.cells #[(.int .i64 k), (S nm), (.int .i64 op), (S ev), sv] 24 (0, 0)) := n1.here
 have z1 := n1.size
 refine WO_pure (v := (.bool false)) rfl rfl ?_
 refine WO_nil ?_
 refine W_seq ?_
 refine W_seq ?_
 refine W_reg ?_
 refine WO_same (v := (.pointer (some ⟨w.heap.size, 0, none⟩))) rfl (by kernel_rfl) ?_
 refine WO_load (a := ⟨w.heap.size, 0, none⟩) (v := (.int .i64 k)) rfl rfl Tryz.underlying3 rfl (cell_of e1 rfl) ?_
 refine WO_pure (v := (.bool (decide (k = 1)))) rfl rfl ?_
 refine WO_nil ?_
 refine W_if (p := k = 1) rfl (fun c1 => ?_) (fun c1 => ?_)
 ·refine W_seq ?_
  refine W_reg ?_
  refine WO_same (v := (.pointer (some ⟨w.heap.size, 3, none⟩))) rfl (by kernel_rfl) ?_
  refine WO_load (a := ⟨w.heap.size, 3, none⟩) (v := (S ev)) rfl rfl Tryz.underlying9 rfl (cell_of e1 rfl) ?_
  refine WO_call rfl (by exact en_40) (evrParse_any ev _ (by omega)) ?_
  rintro _ w2 ⟨⟨ea2, eb2, ec2, rfl⟩, h2⟩
  have z_w2 := h2.size
  refine WO_pure rfl rfl ?_
  refine WO_pure (v := (.agg #[(S ea2), (S eb2), (S ec2)])) rfl rfl ?_
  refine WO_pure (v := (.int .i64 (evrE ev))) rfl rfl ?_
  refine WO_alloc (v := (.agg #[(S []), (S []), (S [])])) rfl (fun _ => by kernel_rfl) (fun w3 n3 => ?_)
  have e3 : w3.heap[w2.heap.size]? = some (.cells #[(S []), (S []), (S [])] 73 (0, 0)) := n3.here
  have z3 := n3.size
  have p4 := e3
  refine WO_storerow (b := w2.heap.size) (o := 0) (c' := #[(S ea2), (S eb2), (S ec2)]) rfl rfl rfl (fun _ => by kernel_rfl) (by simp [Value.oneCell']) p4 (by simp) (fun w4 u4 => ?_)
  have e4 : w4.heap[w2.heap.size]? = some (.cells #[(S ea2), (S eb2), (S ec2)] 73 (0, 0)) := u4.here
  have z4 := u4.size
  refine WO_pure (v := (.int .i64 (evrE ev))) rfl rfl ?_
  refine WO_nil ?_
  refine W_cut (fun σ' w' => Below w4.heap.size w4 w' ∧ σ' 2 = (.bool (decide (nameB nm = true ∧ args.length = 0 ∧ (op = 0 ∧ ev = [] ∨ (1 ≤ op ∧ op ≤ 7) ∧ evrE ev = 0))))) ?_ ?_
  ·refine W_reg ?_
   refine WO_same (v := (.pointer (some ⟨w.heap.size, 1, none⟩))) rfl (by kernel_rfl) ?_
   refine WO_load (a := ⟨w.heap.size, 1, none⟩) (v := (S nm)) rfl rfl Tryz.underlying9 rfl (cell_of (u4.keep (n3.keep (below_keep h2 e1)) (heap_ne (n3.keep (below_keep h2 e1)) p4 (by decide))) rfl) ?_
   refine WO_call rfl (by exact en_41) (name_any nm _ (by omega)) ?_
   rintro _ w5 ⟨rfl, h5⟩
   have z_w5 := h5.size
   refine WO_pure (v := (.bool (nameB nm))) rfl rfl ?_
   refine WO_split 18 (b := nameB nm) (by exact rfl) (fun c2 => ?_) (fun c2 => ?_)
   ·refine WO_same (v := (.pointer (some ⟨w.heap.size, 4, none⟩))) rfl (by kernel_rfl) ?_
    refine WO_load (a := ⟨w.heap.size, 4, none⟩) (v := sv) rfl rfl Tryz.underlying22 rfl (cell_of (below_keep h5 (u4.keep (n3.keep (below_keep h2 e1)) (heap_ne (n3.keep (below_keep h2 e1)) p4 (by decide)))) rfl) ?_
    refine WO_lenrow (v := sv) (m := args.length) (sz := 5) rfl rfl (hr.ext (below_ext (u4.below (n3.below (below_ext (n1.below (Below.refl w.heap.size w) (Below.refl w.heap.size w).size) h2) (below_ext (n1.below (Below.refl w.heap.size w) (Below.refl w.heap.size w).size) h2).size) (by omega)) h5)) Tryz.underlying22 ?_
    refine WO_pure (v := (.bool (decide ((args.length : Int) = 0)))) rfl rfl ?_
    refine WO_pure (v := (.bool (decide ((args.length : Int) = 0)))) rfl rfl ?_
    refine WO_pure (v := (.bool (decide ((args.length : Int) = 0)))) rfl rfl ?_
    refine WO_splitp 24 (p := (args.length : Int) = 0) (by exact rfl) (fun c3 => ?_) (fun c3 => ?_)
    ·refine WO_same (v := (.pointer (some ⟨w.heap.size, 2, none⟩))) rfl (by kernel_rfl) ?_
     refine WO_load (a := ⟨w.heap.size, 2, none⟩) (v := (.int .i64 op)) rfl rfl Tryz.underlying3 rfl (cell_of (below_keep h5 (u4.keep (n3.keep (below_keep h2 e1)) (heap_ne (n3.keep (below_keep h2 e1)) p4 (by decide)))) rfl) ?_
     refine WO_pure (v := (.bool (decide (op = 0)))) rfl rfl ?_
     refine WO_pure (v := (.bool (decide (op = 0)))) rfl rfl ?_
     refine WO_splitp 28 (p := op = 0) (by exact rfl) (fun c4 => ?_) (fun c4 => ?_)
     ·refine WO_same (v := (.pointer (some ⟨w.heap.size, 3, none⟩))) rfl (by kernel_rfl) ?_
      refine WO_load (a := ⟨w.heap.size, 3, none⟩) (v := (S ev)) rfl rfl Tryz.underlying9 rfl (cell_of (below_keep h5 (u4.keep (n3.keep (below_keep h2 e1)) (heap_ne (n3.keep (below_keep h2 e1)) p4 (by decide)))) rfl) ?_
      refine WO_seql (l1 := ev) (l2 := []) rfl rfl rfl ?_
      refine WO_pure (v := (.bool (decide (ev = [])))) rfl rfl ?_
      refine WO_pure (v := (.bool (decide (ev = [])))) rfl rfl ?_
      refine WO_splitp 33 (p := ev = []) (by exact rfl) (fun c5 => ?_) (fun c5 => ?_)
      ·refine WO_pass rfl ?_
       refine WO_pass rfl ?_
       refine WO_pass rfl ?_
       refine WO_pass rfl ?_
       refine WO_pass rfl ?_
       refine WO_pass rfl ?_
       refine WO_pass rfl ?_
       refine WO_pass rfl ?_
       refine WO_pass rfl ?_
       refine WO_pass rfl ?_
       refine WO_pass rfl ?_
       refine WO_pass rfl ?_
       refine WO_pure (v := (.bool true)) rfl rfl ?_
       refine WO_pure (v := (.bool true)) rfl rfl ?_
       refine WO_pure (v := (.bool true)) rfl rfl ?_
       refine WO_nil ?_
       exact ⟨(below_ext (Below.refl w4.heap.size w4) h5), (by show ((.bool true) : Value) = (.bool (decide (nameB nm = true ∧ args.length = 0 ∧ (op = 0 ∧ ev = [] ∨ (1 ≤ op ∧ op ≤ 7) ∧ evrE ev = 0)))); show Value.bool _ = Value.bool _; rw [Value.bool.injEq, Bool.eq_iff_iff]; first | (simp [c2, c3, c4, c5]; done) | (simp [c2, c3, c4, c5]; omega) | (simp_all []; done) | (simp_all []; omega) | (simp only [Bool.or_eq_true, Bool.and_eq_true, Bool.not_eq_true', decide_eq_true_eq, decide_eq_false_iff_not]; grind))⟩
      ·refine WO_same (v := (.pointer (some ⟨w.heap.size, 2, none⟩))) rfl (by kernel_rfl) ?_
       refine WO_load (a := ⟨w.heap.size, 2, none⟩) (v := (.int .i64 op)) rfl rfl Tryz.underlying3 rfl (cell_of (below_keep h5 (u4.keep (n3.keep (below_keep h2 e1)) (heap_ne (n3.keep (below_keep h2 e1)) p4 (by decide)))) rfl) ?_
       refine WO_pure (v := (.bool (decide (1 ≤ op)))) rfl rfl ?_
       refine WO_pure (v := (.bool (decide (1 ≤ op)))) rfl rfl ?_
       refine WO_splitp 37 (p := 1 ≤ op) (by exact rfl) (fun c6 => ?_) (fun c6 => ?_)
       ·refine WO_same (v := (.pointer (some ⟨w.heap.size, 2, none⟩))) rfl (by kernel_rfl) ?_
        refine WO_load (a := ⟨w.heap.size, 2, none⟩) (v := (.int .i64 op)) rfl rfl Tryz.underlying3 rfl (cell_of (below_keep h5 (u4.keep (n3.keep (below_keep h2 e1)) (heap_ne (n3.keep (below_keep h2 e1)) p4 (by decide)))) rfl) ?_
        refine WO_pure (v := (.bool (decide (op ≤ 7)))) rfl rfl ?_
        refine WO_pure (v := (.bool (decide (op ≤ 7)))) rfl rfl ?_
        refine WO_pure (v := (.bool (decide (op ≤ 7)))) rfl rfl ?_
        refine WO_splitp 42 (p := op ≤ 7) (by exact rfl) (fun c7 => ?_) (fun c7 => ?_)
        ·refine WO_pure (v := (.int .i64 (evrE ev))) rfl rfl ?_
         refine WO_pure (v := (.bool (decide ((evrE ev) = 0)))) rfl rfl ?_
         refine WO_pure (v := (.bool (decide ((evrE ev) = 0)))) rfl rfl ?_
         refine WO_pure (v := (.bool (decide ((evrE ev) = 0)))) rfl rfl ?_
         refine WO_pure (v := (.bool (decide ((evrE ev) = 0)))) rfl rfl ?_
         refine WO_pure (v := (.bool (decide ((evrE ev) = 0)))) rfl rfl ?_
         refine WO_nil ?_
         exact ⟨(below_ext (Below.refl w4.heap.size w4) h5), (by show ((.bool (decide ((evrE ev) = 0))) : Value) = (.bool (decide (nameB nm = true ∧ args.length = 0 ∧ (op = 0 ∧ ev = [] ∨ (1 ≤ op ∧ op ≤ 7) ∧ evrE ev = 0)))); show Value.bool _ = Value.bool _; rw [Value.bool.injEq, Bool.eq_iff_iff]; first | (simp [c2, c3, c4, c5, c6, c7]; done) | (simp [c2, c3, c4, c5, c6, c7]; omega) | (simp_all []; done) | (simp_all []; omega) | (simp only [Bool.or_eq_true, Bool.and_eq_true, Bool.not_eq_true', decide_eq_true_eq, decide_eq_false_iff_not]; grind))⟩
        ·refine WO_pass rfl ?_
         refine WO_pass rfl ?_
         refine WO_pure (v := (.bool false)) rfl rfl ?_
         refine WO_pure (v := (.bool false)) rfl rfl ?_
         refine WO_pure (v := (.bool false)) rfl rfl ?_
         refine WO_pure (v := (.bool false)) rfl rfl ?_
         refine WO_nil ?_
         exact ⟨(below_ext (Below.refl w4.heap.size w4) h5), (by show ((.bool false) : Value) = (.bool (decide (nameB nm = true ∧ args.length = 0 ∧ (op = 0 ∧ ev = [] ∨ (1 ≤ op ∧ op ≤ 7) ∧ evrE ev = 0)))); show Value.bool _ = Value.bool _; rw [Value.bool.injEq, Bool.eq_iff_iff]; first | (simp [c2, c3, c4, c5, c6, c7]; done) | (simp [c2, c3, c4, c5, c6, c7]; omega) | (simp_all []; done) | (simp_all []; omega) | (simp only [Bool.or_eq_true, Bool.and_eq_true, Bool.not_eq_true', decide_eq_true_eq, decide_eq_false_iff_not]; grind))⟩
       ·refine WO_pass rfl ?_
        refine WO_pass rfl ?_
        refine WO_pass rfl ?_
        refine WO_pure (v := (.bool false)) rfl rfl ?_
        refine WO_pure (v := (.bool false)) rfl rfl ?_
        refine WO_pass rfl ?_
        refine WO_pass rfl ?_
        refine WO_pure (v := (.bool false)) rfl rfl ?_
        refine WO_pure (v := (.bool false)) rfl rfl ?_
        refine WO_pure (v := (.bool false)) rfl rfl ?_
        refine WO_pure (v := (.bool false)) rfl rfl ?_
        refine WO_nil ?_
        exact ⟨(below_ext (Below.refl w4.heap.size w4) h5), (by show ((.bool false) : Value) = (.bool (decide (nameB nm = true ∧ args.length = 0 ∧ (op = 0 ∧ ev = [] ∨ (1 ≤ op ∧ op ≤ 7) ∧ evrE ev = 0)))); show Value.bool _ = Value.bool _; rw [Value.bool.injEq, Bool.eq_iff_iff]; first | (simp [c2, c3, c4, c5, c6]; done) | (simp [c2, c3, c4, c5, c6]; omega) | (simp_all []; done) | (simp_all []; omega) | (simp only [Bool.or_eq_true, Bool.and_eq_true, Bool.not_eq_true', decide_eq_true_eq, decide_eq_false_iff_not]; grind))⟩
     ·refine WO_pass rfl ?_
      refine WO_pass rfl ?_
      refine WO_pass rfl ?_
      refine WO_pure (v := (.bool false)) rfl rfl ?_
      refine WO_pure (v := (.bool false)) rfl rfl ?_
      refine WO_same (v := (.pointer (some ⟨w.heap.size, 2, none⟩))) rfl (by kernel_rfl) ?_
      refine WO_load (a := ⟨w.heap.size, 2, none⟩) (v := (.int .i64 op)) rfl rfl Tryz.underlying3 rfl (cell_of (below_keep h5 (u4.keep (n3.keep (below_keep h2 e1)) (heap_ne (n3.keep (below_keep h2 e1)) p4 (by decide)))) rfl) ?_
      refine WO_pure (v := (.bool (decide (1 ≤ op)))) rfl rfl ?_
      refine WO_pure (v := (.bool (decide (1 ≤ op)))) rfl rfl ?_
      refine WO_splitp 37 (p := 1 ≤ op) (by exact rfl) (fun c8 => ?_) (fun c8 => ?_)
      ·refine WO_same (v := (.pointer (some ⟨w.heap.size, 2, none⟩))) rfl (by kernel_rfl) ?_
       refine WO_load (a := ⟨w.heap.size, 2, none⟩) (v := (.int .i64 op)) rfl rfl Tryz.underlying3 rfl (cell_of (below_keep h5 (u4.keep (n3.keep (below_keep h2 e1)) (heap_ne (n3.keep (below_keep h2 e1)) p4 (by decide)))) rfl) ?_
       refine WO_pure (v := (.bool (decide (op ≤ 7)))) rfl rfl ?_
       refine WO_pure (v := (.bool (decide (op ≤ 7)))) rfl rfl ?_
       refine WO_pure (v := (.bool (decide (op ≤ 7)))) rfl rfl ?_
       refine WO_splitp 42 (p := op ≤ 7) (by exact rfl) (fun c9 => ?_) (fun c9 => ?_)
       ·refine WO_pure (v := (.int .i64 (evrE ev))) rfl rfl ?_
        refine WO_pure (v := (.bool (decide ((evrE ev) = 0)))) rfl rfl ?_
        refine WO_pure (v := (.bool (decide ((evrE ev) = 0)))) rfl rfl ?_
        refine WO_pure (v := (.bool (decide ((evrE ev) = 0)))) rfl rfl ?_
        refine WO_pure (v := (.bool (decide ((evrE ev) = 0)))) rfl rfl ?_
        refine WO_pure (v := (.bool (decide ((evrE ev) = 0)))) rfl rfl ?_
        refine WO_nil ?_
        exact ⟨(below_ext (Below.refl w4.heap.size w4) h5), (by show ((.bool (decide ((evrE ev) = 0))) : Value) = (.bool (decide (nameB nm = true ∧ args.length = 0 ∧ (op = 0 ∧ ev = [] ∨ (1 ≤ op ∧ op ≤ 7) ∧ evrE ev = 0)))); show Value.bool _ = Value.bool _; rw [Value.bool.injEq, Bool.eq_iff_iff]; first | (simp [c2, c3, c4, c8, c9]; done) | (simp [c2, c3, c4, c8, c9]; omega) | (simp_all []; done) | (simp_all []; omega) | (simp only [Bool.or_eq_true, Bool.and_eq_true, Bool.not_eq_true', decide_eq_true_eq, decide_eq_false_iff_not]; grind))⟩
       ·refine WO_pass rfl ?_
        refine WO_pass rfl ?_
        refine WO_pure (v := (.bool false)) rfl rfl ?_
        refine WO_pure (v := (.bool false)) rfl rfl ?_
        refine WO_pure (v := (.bool false)) rfl rfl ?_
        refine WO_pure (v := (.bool false)) rfl rfl ?_
        refine WO_nil ?_
        exact ⟨(below_ext (Below.refl w4.heap.size w4) h5), (by show ((.bool false) : Value) = (.bool (decide (nameB nm = true ∧ args.length = 0 ∧ (op = 0 ∧ ev = [] ∨ (1 ≤ op ∧ op ≤ 7) ∧ evrE ev = 0)))); show Value.bool _ = Value.bool _; rw [Value.bool.injEq, Bool.eq_iff_iff]; first | (simp [c2, c3, c4, c8, c9]; done) | (simp [c2, c3, c4, c8, c9]; omega) | (simp_all []; done) | (simp_all []; omega) | (simp only [Bool.or_eq_true, Bool.and_eq_true, Bool.not_eq_true', decide_eq_true_eq, decide_eq_false_iff_not]; grind))⟩
      ·refine WO_pass rfl ?_
       refine WO_pass rfl ?_
       refine WO_pass rfl ?_
       refine WO_pure (v := (.bool false)) rfl rfl ?_
       refine WO_pure (v := (.bool false)) rfl rfl ?_
       refine WO_pass rfl ?_
       refine WO_pass rfl ?_
       refine WO_pure (v := (.bool false)) rfl rfl ?_
       refine WO_pure (v := (.bool false)) rfl rfl ?_
       refine WO_pure (v := (.bool false)) rfl rfl ?_
       refine WO_pure (v := (.bool false)) rfl rfl ?_
       refine WO_nil ?_
       exact ⟨(below_ext (Below.refl w4.heap.size w4) h5), (by show ((.bool false) : Value) = (.bool (decide (nameB nm = true ∧ args.length = 0 ∧ (op = 0 ∧ ev = [] ∨ (1 ≤ op ∧ op ≤ 7) ∧ evrE ev = 0)))); show Value.bool _ = Value.bool _; rw [Value.bool.injEq, Bool.eq_iff_iff]; first | (simp [c2, c3, c4, c8]; done) | (simp [c2, c3, c4, c8]; omega) | (simp_all []; done) | (simp_all []; omega) | (simp only [Bool.or_eq_true, Bool.and_eq_true, Bool.not_eq_true', decide_eq_true_eq, decide_eq_false_iff_not]; grind))⟩
    ·refine WO_pass rfl ?_
     refine WO_pass rfl ?_
     refine WO_pass rfl ?_
     refine WO_pass rfl ?_
     refine WO_pass rfl ?_
     refine WO_pass rfl ?_
     refine WO_pass rfl ?_
     refine WO_pass rfl ?_
     refine WO_pass rfl ?_
     refine WO_pass rfl ?_
     refine WO_pass rfl ?_
     refine WO_pass rfl ?_
     refine WO_pass rfl ?_
     refine WO_pass rfl ?_
     refine WO_pass rfl ?_
     refine WO_pass rfl ?_
     refine WO_pass rfl ?_
     refine WO_pass rfl ?_
     refine WO_pass rfl ?_
     refine WO_pass rfl ?_
     refine WO_pass rfl ?_
     refine WO_pass rfl ?_
     refine WO_pure (v := (.bool false)) rfl rfl ?_
     refine WO_pure (v := (.bool false)) rfl rfl ?_
     refine WO_nil ?_
     exact ⟨(below_ext (Below.refl w4.heap.size w4) h5), (by show ((.bool false) : Value) = (.bool (decide (nameB nm = true ∧ args.length = 0 ∧ (op = 0 ∧ ev = [] ∨ (1 ≤ op ∧ op ≤ 7) ∧ evrE ev = 0)))); show Value.bool _ = Value.bool _; rw [Value.bool.injEq, Bool.eq_iff_iff]; first | (simp [c2, c3]; done) | (simp [c2, c3]; omega) | (simp_all []; done) | (simp_all []; omega) | (simp only [Bool.or_eq_true, Bool.and_eq_true, Bool.not_eq_true', decide_eq_true_eq, decide_eq_false_iff_not]; grind))⟩
   ·refine WO_pass rfl ?_
    refine WO_pass rfl ?_
    refine WO_pass rfl ?_
    refine WO_pass rfl ?_
    refine WO_pure (v := (.bool false)) rfl rfl ?_
    refine WO_pure (v := (.bool false)) rfl rfl ?_
    refine WO_pass rfl ?_
    refine WO_pass rfl ?_
    refine WO_pass rfl ?_
    refine WO_pass rfl ?_
    refine WO_pass rfl ?_
    refine WO_pass rfl ?_
    refine WO_pass rfl ?_
    refine WO_pass rfl ?_
    refine WO_pass rfl ?_
    refine WO_pass rfl ?_
    refine WO_pass rfl ?_
    refine WO_pass rfl ?_
    refine WO_pass rfl ?_
    refine WO_pass rfl ?_
    refine WO_pass rfl ?_
    refine WO_pass rfl ?_
    refine WO_pass rfl ?_
    refine WO_pass rfl ?_
    refine WO_pass rfl ?_
    refine WO_pass rfl ?_
    refine WO_pass rfl ?_
    refine WO_pass rfl ?_
    refine WO_pure (v := (.bool false)) rfl rfl ?_
    refine WO_pure (v := (.bool false)) rfl rfl ?_
    refine WO_nil ?_
    exact ⟨(below_ext (Below.refl w4.heap.size w4) h5), (by show ((.bool false) : Value) = (.bool (decide (nameB nm = true ∧ args.length = 0 ∧ (op = 0 ∧ ev = [] ∨ (1 ≤ op ∧ op ≤ 7) ∧ evrE ev = 0)))); show Value.bool _ = Value.bool _; rw [Value.bool.injEq, Bool.eq_iff_iff]; first | (simp [c2]; done) | (simp [c2]; omega) | (simp_all []; done) | (simp_all []; omega) | (simp only [Bool.or_eq_true, Bool.and_eq_true, Bool.not_eq_true', decide_eq_true_eq, decide_eq_false_iff_not]; grind))⟩
  ·rintro σ1 wc1 ⟨hc1, h1_2⟩
   have z_wc1 := hc1.size
   refine W_anchor (d := 2) h1_2 (?_)
   refine W_ret ?_
   refine body_ret1 rfl (v0 := (.bool (decide (nameB nm = true ∧ args.length = 0 ∧ (op = 0 ∧ ev = [] ∨ (1 ≤ op ∧ op ≤ 7) ∧ evrE ev = 0))))) rfl ?_
   have hbel := (below_ext (u4.below (n3.below (below_ext (n1.below (Below.refl w.heap.size w) (Below.refl w.heap.size w).size) h2) (below_ext (n1.below (Below.refl w.heap.size w) (Below.refl w.heap.size w).size) h2).size) (by omega)) hc1)
   exact ⟨by unfold formB; rw [if_pos c1, form_name], hbel⟩
 ·refine W_skip ?_
  refine W_seq ?_
  refine W_reg ?_
  refine WO_makemap rfl (fun w6 n6 => ?_)
  refine WO_mapins (enc := I64) (val := I64) (m := []) (k := 4) (a := 3) rfl rfl rfl rfl (MapIs.made n6) (by simp [Once, aput, alook]) (key_int Tryz.underlying3) Tryz.underlying77 (fun wm1 om1 um1 hm1 => ?_)
  have zm1 := um1.size
  refine WO_mapins (enc := I64) (val := I64) (m := (aput [] 4 3)) (k := 6) (a := 2) rfl rfl rfl rfl hm1 (by simp [Once, aput, alook]) (key_int Tryz.underlying3) Tryz.underlying77 (fun wm2 om2 um2 hm2 => ?_)
  have zm2 := um2.size
  refine WO_pure (v := (.map (some w1.heap.size))) rfl rfl ?_
  refine WO_same (v := (.pointer (some ⟨w.heap.size, 0, none⟩))) rfl (by kernel_rfl) ?_
  refine WO_load (a := ⟨w.heap.size, 0, none⟩) (v := (.int .i64 k)) rfl rfl Tryz.underlying3 rfl (cell_of (um2.keep (um1.keep (n6.keep e1) (by first | assumption | omega | (simp; omega))) (by first | assumption | omega | (simp; omega))) rfl) ?_
  refine WO_lookup (val := I64) (z := .int .i64 0) (m := aput (aput [] 4 3) 6 2) (k := k) rfl rfl rfl hm2 (key_int Tryz.underlying3) Tryz.underlying77 (fun _ => by kernel_rfl) ?_
  refine WO_eq 52 rfl (most_look k) ?_
  refine WO_pure (v := (.int .i64 (mostN k))) rfl rfl ?_
  refine WO_nil ?_
  refine W_seq ?_
  refine W_cut (fun σ' w' => wm2 = w' ∧ σ' 1 = (.pointer (some ⟨w.heap.size, 0, none⟩)) ∧ σ' 92 = (.bool (decide ((k < 2 ∨ 6 < k ∨ nm ≠ [] ∨ op ≠ 0 ∨ ev ≠ [] ∨ args.length < 2) ∨ (0 < mostN k ∧ mostN k < (args.length : Int)))))) ?_ ?_
  ·refine W_reg ?_
   refine WO_same (v := (.pointer (some ⟨w.heap.size, 0, none⟩))) rfl (by kernel_rfl) ?_
   refine WO_load (a := ⟨w.heap.size, 0, none⟩) (v := (.int .i64 k)) rfl rfl Tryz.underlying3 rfl (cell_of (um2.keep (um1.keep (n6.keep e1) (by first | assumption | omega | (simp; omega))) (by first | assumption | omega | (simp; omega))) rfl) ?_
   refine WO_pure (v := (.bool (decide (k < 2)))) rfl rfl ?_
   refine WO_pure (v := (.bool (decide (k < 2)))) rfl rfl ?_
   refine WO_splitp 56 (p := k < 2) (by exact rfl) (fun c10 => ?_) (fun c10 => ?_)
   ·refine WO_pass rfl ?_
    refine WO_pass rfl ?_
    refine WO_pass rfl ?_
    refine WO_pure (v := (.bool true)) rfl rfl ?_
    refine WO_pure (v := (.bool true)) rfl rfl ?_
    refine WO_pass rfl ?_
    refine WO_pass rfl ?_
    refine WO_pass rfl ?_
    refine WO_pure (v := (.bool true)) rfl rfl ?_
    refine WO_pure (v := (.bool true)) rfl rfl ?_
    refine WO_pass rfl ?_
    refine WO_pass rfl ?_
    refine WO_pass rfl ?_
    refine WO_pure (v := (.bool true)) rfl rfl ?_
    refine WO_pure (v := (.bool true)) rfl rfl ?_
    refine WO_pass rfl ?_
    refine WO_pass rfl ?_
    refine WO_pass rfl ?_
    refine WO_pure (v := (.bool true)) rfl rfl ?_
    refine WO_pure (v := (.bool true)) rfl rfl ?_
    refine WO_pass rfl ?_
    refine WO_pass rfl ?_
    refine WO_pass rfl ?_
    refine WO_pass rfl ?_
    refine WO_pure (v := (.bool true)) rfl rfl ?_
    refine WO_pure (v := (.bool true)) rfl rfl ?_
    refine WO_pass rfl ?_
    refine WO_pass rfl ?_
    refine WO_pass rfl ?_
    refine WO_pass rfl ?_
    refine WO_pass rfl ?_
    refine WO_pass rfl ?_
    refine WO_pass rfl ?_
    refine WO_pass rfl ?_
    refine WO_pass rfl ?_
    refine WO_pure (v := (.bool true)) rfl rfl ?_
    refine WO_nil ?_
    exact ⟨rfl, rfl, (by show ((.bool true) : Value) = (.bool (decide ((k < 2 ∨ 6 < k ∨ nm ≠ [] ∨ op ≠ 0 ∨ ev ≠ [] ∨ args.length < 2) ∨ (0 < mostN k ∧ mostN k < (args.length : Int))))); show Value.bool _ = Value.bool _; rw [Value.bool.injEq, Bool.eq_iff_iff]; first | (simp [c10]; done) | (simp [c10]; omega) | (simp_all []; done) | (simp_all []; omega) | (simp only [Bool.or_eq_true, Bool.and_eq_true, Bool.not_eq_true', decide_eq_true_eq, decide_eq_false_iff_not]; grind))⟩
   ·refine WO_same (v := (.pointer (some ⟨w.heap.size, 0, none⟩))) rfl (by kernel_rfl) ?_
    refine WO_load (a := ⟨w.heap.size, 0, none⟩) (v := (.int .i64 k)) rfl rfl Tryz.underlying3 rfl (cell_of (um2.keep (um1.keep (n6.keep e1) (by first | assumption | omega | (simp; omega))) (by first | assumption | omega | (simp; omega))) rfl) ?_
    refine WO_pure (v := (.bool (decide (6 < k)))) rfl rfl ?_
    refine WO_pure (v := (.bool (decide (6 < k)))) rfl rfl ?_
    refine WO_pure (v := (.bool (decide (6 < k)))) rfl rfl ?_
    refine WO_splitp 61 (p := 6 < k) (by exact rfl) (fun c11 => ?_) (fun c11 => ?_)
    ·refine WO_pass rfl ?_
     refine WO_pass rfl ?_
     refine WO_pass rfl ?_
     refine WO_pure (v := (.bool true)) rfl rfl ?_
     refine WO_pure (v := (.bool true)) rfl rfl ?_
     refine WO_pass rfl ?_
     refine WO_pass rfl ?_
     refine WO_pass rfl ?_
     refine WO_pure (v := (.bool true)) rfl rfl ?_
     refine WO_pure (v := (.bool true)) rfl rfl ?_
     refine WO_pass rfl ?_
     refine WO_pass rfl ?_
     refine WO_pass rfl ?_
     refine WO_pure (v := (.bool true)) rfl rfl ?_
     refine WO_pure (v := (.bool true)) rfl rfl ?_
     refine WO_pass rfl ?_
     refine WO_pass rfl ?_
     refine WO_pass rfl ?_
     refine WO_pass rfl ?_
     refine WO_pure (v := (.bool true)) rfl rfl ?_
     refine WO_pure (v := (.bool true)) rfl rfl ?_
     refine WO_pass rfl ?_
     refine WO_pass rfl ?_
     refine WO_pass rfl ?_
     refine WO_pass rfl ?_
     refine WO_pass rfl ?_
     refine WO_pass rfl ?_
     refine WO_pass rfl ?_
     refine WO_pass rfl ?_
     refine WO_pass rfl ?_
     refine WO_pure (v := (.bool true)) rfl rfl ?_
     refine WO_nil ?_
     exact ⟨rfl, rfl, (by show ((.bool true) : Value) = (.bool (decide ((k < 2 ∨ 6 < k ∨ nm ≠ [] ∨ op ≠ 0 ∨ ev ≠ [] ∨ args.length < 2) ∨ (0 < mostN k ∧ mostN k < (args.length : Int))))); show Value.bool _ = Value.bool _; rw [Value.bool.injEq, Bool.eq_iff_iff]; first | (simp [c10, c11]; done) | (simp [c10, c11]; omega) | (simp_all []; done) | (simp_all []; omega) | (simp only [Bool.or_eq_true, Bool.and_eq_true, Bool.not_eq_true', decide_eq_true_eq, decide_eq_false_iff_not]; grind))⟩
    ·refine WO_same (v := (.pointer (some ⟨w.heap.size, 1, none⟩))) rfl (by kernel_rfl) ?_
     refine WO_load (a := ⟨w.heap.size, 1, none⟩) (v := (S nm)) rfl rfl Tryz.underlying9 rfl (cell_of (um2.keep (um1.keep (n6.keep e1) (by first | assumption | omega | (simp; omega))) (by first | assumption | omega | (simp; omega))) rfl) ?_
     refine WO_sneq (l1 := nm) (l2 := []) rfl rfl rfl ?_
     refine WO_pure (v := (.bool (!decide (nm = [])))) rfl rfl ?_
     refine WO_pure (v := (.bool (!decide (nm = [])))) rfl rfl ?_
     refine WO_split 66 (b := !decide (nm = [])) (by exact rfl) (fun c12 => ?_) (fun c12 => ?_)
     ·refine WO_pass rfl ?_
      refine WO_pass rfl ?_
      refine WO_pass rfl ?_
      refine WO_pure (v := (.bool true)) rfl rfl ?_
      refine WO_pure (v := (.bool true)) rfl rfl ?_
      refine WO_pass rfl ?_
      refine WO_pass rfl ?_
      refine WO_pass rfl ?_
      refine WO_pure (v := (.bool true)) rfl rfl ?_
      refine WO_pure (v := (.bool true)) rfl rfl ?_
      refine WO_pass rfl ?_
      refine WO_pass rfl ?_
      refine WO_pass rfl ?_
      refine WO_pass rfl ?_
      refine WO_pure (v := (.bool true)) rfl rfl ?_
      refine WO_pure (v := (.bool true)) rfl rfl ?_
      refine WO_pass rfl ?_
      refine WO_pass rfl ?_
      refine WO_pass rfl ?_
      refine WO_pass rfl ?_
      refine WO_pass rfl ?_
      refine WO_pass rfl ?_
      refine WO_pass rfl ?_
      refine WO_pass rfl ?_
      refine WO_pass rfl ?_
      refine WO_pure (v := (.bool true)) rfl rfl ?_
      refine WO_nil ?_
      exact ⟨rfl, rfl, (by show ((.bool true) : Value) = (.bool (decide ((k < 2 ∨ 6 < k ∨ nm ≠ [] ∨ op ≠ 0 ∨ ev ≠ [] ∨ args.length < 2) ∨ (0 < mostN k ∧ mostN k < (args.length : Int))))); show Value.bool _ = Value.bool _; rw [Value.bool.injEq, Bool.eq_iff_iff]; first | (simp [c10, c11, c12]; done) | (simp [c10, c11, c12]; omega) | (simp_all []; done) | (simp_all []; omega) | (simp only [Bool.or_eq_true, Bool.and_eq_true, Bool.not_eq_true', decide_eq_true_eq, decide_eq_false_iff_not]; grind))⟩
     ·refine WO_same (v := (.pointer (some ⟨w.heap.size, 2, none⟩))) rfl (by kernel_rfl) ?_
      refine WO_load (a := ⟨w.heap.size, 2, none⟩) (v := (.int .i64 op)) rfl rfl Tryz.underlying3 rfl (cell_of (um2.keep (um1.keep (n6.keep e1) (by first | assumption | omega | (simp; omega))) (by first | assumption | omega | (simp; omega))) rfl) ?_
      refine WO_pure (v := (.bool (!decide (op = 0)))) rfl rfl ?_
      refine WO_pure (v := (.bool (!decide (op = 0)))) rfl rfl ?_
      refine WO_pure (v := (.bool (!decide (op = 0)))) rfl rfl ?_
      refine WO_split 71 (b := !decide (op = 0)) (by exact rfl) (fun c13 => ?_) (fun c13 => ?_)
      ·refine WO_pass rfl ?_
       refine WO_pass rfl ?_
       refine WO_pass rfl ?_
       refine WO_pure (v := (.bool true)) rfl rfl ?_
       refine WO_pure (v := (.bool true)) rfl rfl ?_
       refine WO_pass rfl ?_
       refine WO_pass rfl ?_
       refine WO_pass rfl ?_
       refine WO_pass rfl ?_
       refine WO_pure (v := (.bool true)) rfl rfl ?_
       refine WO_pure (v := (.bool true)) rfl rfl ?_
       refine WO_pass rfl ?_
       refine WO_pass rfl ?_
       refine WO_pass rfl ?_
       refine WO_pass rfl ?_
       refine WO_pass rfl ?_
       refine WO_pass rfl ?_
       refine WO_pass rfl ?_
       refine WO_pass rfl ?_
       refine WO_pass rfl ?_
       refine WO_pure (v := (.bool true)) rfl rfl ?_
       refine WO_nil ?_
       exact ⟨rfl, rfl, (by show ((.bool true) : Value) = (.bool (decide ((k < 2 ∨ 6 < k ∨ nm ≠ [] ∨ op ≠ 0 ∨ ev ≠ [] ∨ args.length < 2) ∨ (0 < mostN k ∧ mostN k < (args.length : Int))))); show Value.bool _ = Value.bool _; rw [Value.bool.injEq, Bool.eq_iff_iff]; first | (simp [c10, c11, c12, c13]; done) | (simp [c10, c11, c12, c13]; omega) | (simp_all []; done) | (simp_all []; omega) | (simp only [Bool.or_eq_true, Bool.and_eq_true, Bool.not_eq_true', decide_eq_true_eq, decide_eq_false_iff_not]; grind))⟩
      ·refine WO_same (v := (.pointer (some ⟨w.heap.size, 3, none⟩))) rfl (by kernel_rfl) ?_
       refine WO_load (a := ⟨w.heap.size, 3, none⟩) (v := (S ev)) rfl rfl Tryz.underlying9 rfl (cell_of (um2.keep (um1.keep (n6.keep e1) (by first | assumption | omega | (simp; omega))) (by first | assumption | omega | (simp; omega))) rfl) ?_
       refine WO_sneq (l1 := ev) (l2 := []) rfl rfl rfl ?_
       refine WO_pure (v := (.bool (!decide (ev = [])))) rfl rfl ?_
       refine WO_pure (v := (.bool (!decide (ev = [])))) rfl rfl ?_
       refine WO_split 76 (b := !decide (ev = [])) (by exact rfl) (fun c14 => ?_) (fun c14 => ?_)
       ·refine WO_pass rfl ?_
        refine WO_pass rfl ?_
        refine WO_pass rfl ?_
        refine WO_pass rfl ?_
        refine WO_pure (v := (.bool true)) rfl rfl ?_
        refine WO_pure (v := (.bool true)) rfl rfl ?_
        refine WO_pass rfl ?_
        refine WO_pass rfl ?_
        refine WO_pass rfl ?_
        refine WO_pass rfl ?_
        refine WO_pass rfl ?_
        refine WO_pass rfl ?_
        refine WO_pass rfl ?_
        refine WO_pass rfl ?_
        refine WO_pass rfl ?_
        refine WO_pure (v := (.bool true)) rfl rfl ?_
        refine WO_nil ?_
        exact ⟨rfl, rfl, (by show ((.bool true) : Value) = (.bool (decide ((k < 2 ∨ 6 < k ∨ nm ≠ [] ∨ op ≠ 0 ∨ ev ≠ [] ∨ args.length < 2) ∨ (0 < mostN k ∧ mostN k < (args.length : Int))))); show Value.bool _ = Value.bool _; rw [Value.bool.injEq, Bool.eq_iff_iff]; first | (simp [c10, c11, c12, c13, c14]; done) | (simp [c10, c11, c12, c13, c14]; omega) | (simp_all []; done) | (simp_all []; omega) | (simp only [Bool.or_eq_true, Bool.and_eq_true, Bool.not_eq_true', decide_eq_true_eq, decide_eq_false_iff_not]; grind))⟩
       ·refine WO_same (v := (.pointer (some ⟨w.heap.size, 4, none⟩))) rfl (by kernel_rfl) ?_
        refine WO_load (a := ⟨w.heap.size, 4, none⟩) (v := sv) rfl rfl Tryz.underlying22 rfl (cell_of (um2.keep (um1.keep (n6.keep e1) (by first | assumption | omega | (simp; omega))) (by first | assumption | omega | (simp; omega))) rfl) ?_
        refine WO_lenrow (v := sv) (m := args.length) (sz := 5) rfl rfl (hr.ext (um2.below (um1.below (n6.below (n1.below (Below.refl w.heap.size w) (Below.refl w.heap.size w).size) (n1.below (Below.refl w.heap.size w) (Below.refl w.heap.size w).size).size) (by omega)) (by omega))) Tryz.underlying22 ?_
        refine WO_pure (v := (.bool (decide ((args.length : Int) < 2)))) rfl rfl ?_
        refine WO_pure (v := (.bool (decide ((args.length : Int) < 2)))) rfl rfl ?_
        refine WO_pure (v := (.bool (decide ((args.length : Int) < 2)))) rfl rfl ?_
        refine WO_splitp 82 (p := (args.length : Int) < 2) (by exact rfl) (fun c15 => ?_) (fun c15 => ?_)
        ·refine WO_pass rfl ?_
         refine WO_pass rfl ?_
         refine WO_pass rfl ?_
         refine WO_pass rfl ?_
         refine WO_pass rfl ?_
         refine WO_pass rfl ?_
         refine WO_pass rfl ?_
         refine WO_pass rfl ?_
         refine WO_pass rfl ?_
         refine WO_pure (v := (.bool true)) rfl rfl ?_
         refine WO_nil ?_
         exact ⟨rfl, rfl, (by show ((.bool true) : Value) = (.bool (decide ((k < 2 ∨ 6 < k ∨ nm ≠ [] ∨ op ≠ 0 ∨ ev ≠ [] ∨ args.length < 2) ∨ (0 < mostN k ∧ mostN k < (args.length : Int))))); show Value.bool _ = Value.bool _; rw [Value.bool.injEq, Bool.eq_iff_iff]; first | (simp [c10, c11, c12, c13, c14, c15]; done) | (simp [c10, c11, c12, c13, c14, c15]; omega) | (simp_all []; done) | (simp_all []; omega) | (simp only [Bool.or_eq_true, Bool.and_eq_true, Bool.not_eq_true', decide_eq_true_eq, decide_eq_false_iff_not]; grind))⟩
        ·refine WO_pure (v := (.int .i64 (mostN k))) rfl rfl ?_
         refine WO_pure (v := (.bool (decide (0 < (mostN k))))) rfl rfl ?_
         refine WO_pure (v := (.bool (decide (0 < (mostN k))))) rfl rfl ?_
         refine WO_splitp 85 (p := 0 < (mostN k)) (by exact rfl) (fun c16 => ?_) (fun c16 => ?_)
         ·refine WO_same (v := (.pointer (some ⟨w.heap.size, 4, none⟩))) rfl (by kernel_rfl) ?_
          refine WO_load (a := ⟨w.heap.size, 4, none⟩) (v := sv) rfl rfl Tryz.underlying22 rfl (cell_of (um2.keep (um1.keep (n6.keep e1) (by first | assumption | omega | (simp; omega))) (by first | assumption | omega | (simp; omega))) rfl) ?_
          refine WO_lenrow (v := sv) (m := args.length) (sz := 5) rfl rfl (hr.ext (um2.below (um1.below (n6.below (n1.below (Below.refl w.heap.size w) (Below.refl w.heap.size w).size) (n1.below (Below.refl w.heap.size w) (Below.refl w.heap.size w).size).size) (by omega)) (by omega))) Tryz.underlying22 ?_
          refine WO_pure (v := (.int .i64 (mostN k))) rfl rfl ?_
          refine WO_pure (v := (.bool (decide ((mostN k) < (args.length : Int))))) rfl rfl ?_
          refine WO_pure (v := (.bool (decide ((mostN k) < (args.length : Int))))) rfl rfl ?_
          refine WO_pure (v := (.bool (decide ((mostN k) < (args.length : Int))))) rfl rfl ?_
          refine WO_nil ?_
          exact ⟨rfl, rfl, (by show ((.bool (decide ((mostN k) < (args.length : Int)))) : Value) = (.bool (decide ((k < 2 ∨ 6 < k ∨ nm ≠ [] ∨ op ≠ 0 ∨ ev ≠ [] ∨ args.length < 2) ∨ (0 < mostN k ∧ mostN k < (args.length : Int))))); show Value.bool _ = Value.bool _; rw [Value.bool.injEq, Bool.eq_iff_iff]; first | (simp [c10, c11, c12, c13, c14, c15, c16]; done) | (simp [c10, c11, c12, c13, c14, c15, c16]; omega) | (simp_all []; done) | (simp_all []; omega) | (simp only [Bool.or_eq_true, Bool.and_eq_true, Bool.not_eq_true', decide_eq_true_eq, decide_eq_false_iff_not]; grind))⟩
         ·refine WO_pass rfl ?_
          refine WO_pass rfl ?_
          refine WO_pass rfl ?_
          refine WO_pass rfl ?_
          refine WO_pass rfl ?_
          refine WO_pure (v := (.bool false)) rfl rfl ?_
          refine WO_pure (v := (.bool false)) rfl rfl ?_
          refine WO_nil ?_
          exact ⟨rfl, rfl, (by show ((.bool false) : Value) = (.bool (decide ((k < 2 ∨ 6 < k ∨ nm ≠ [] ∨ op ≠ 0 ∨ ev ≠ [] ∨ args.length < 2) ∨ (0 < mostN k ∧ mostN k < (args.length : Int))))); show Value.bool _ = Value.bool _; rw [Value.bool.injEq, Bool.eq_iff_iff]; first | (simp [c10, c11, c12, c13, c14, c15, c16]; done) | (simp [c10, c11, c12, c13, c14, c15, c16]; omega) | (simp_all []; done) | (simp_all []; omega) | (simp only [Bool.or_eq_true, Bool.and_eq_true, Bool.not_eq_true', decide_eq_true_eq, decide_eq_false_iff_not]; grind))⟩
  ·rintro σ2 _ ⟨rfl, h2_1, h2_92⟩
   refine W_anchor (d := 1) h2_1 (W_anchor (d := 92) h2_92 (?_))
   refine W_if (p := (k < 2 ∨ 6 < k ∨ nm ≠ [] ∨ op ≠ 0 ∨ ev ≠ [] ∨ args.length < 2) ∨ (0 < mostN k ∧ mostN k < (args.length : Int))) rfl (fun c17 => ?_) (fun c17 => ?_)
   ·refine W_seq ?_
    refine W_reg ?_
    refine WO_pure (v := (.bool false)) rfl rfl ?_
    refine WO_nil ?_
    refine W_ret ?_
    refine body_ret1 rfl (v0 := (.bool false)) rfl ?_
    have hbel := (um2.below (um1.below (n6.below (n1.below (Below.refl w.heap.size w) (Below.refl w.heap.size w).size) (n1.below (Below.refl w.heap.size w) (Below.refl w.heap.size w).size).size) (by omega)) (by omega))
    exact ⟨by unfold formB; rw [if_neg c1, form_bad, decide_eq_true c17]; rfl, hbel⟩
   ·refine W_skip ?_
    refine W_seq ?_
    refine W_reg ?_
    refine WO_same (v := (.pointer (some ⟨w.heap.size, 4, none⟩))) rfl (by kernel_rfl) ?_
    refine WO_load (a := ⟨w.heap.size, 4, none⟩) (v := sv) rfl rfl Tryz.underlying22 rfl (cell_of (um2.keep (um1.keep (n6.keep e1) (by first | assumption | omega | (simp; omega))) (by first | assumption | omega | (simp; omega))) rfl) ?_
    refine WO_same (v := (.func (.func 43) #[] #[.pointer (some ⟨w.heap.size, 0, none⟩)])) rfl (by kernel_rfl) ?_
    refine WO_call rfl (by exact en_42) (containsD_any sv args css 43 (List.toArray [.pointer (some ⟨w.heap.size, 0, none⟩)]) (formP k) _ (hr.ext (um2.below (um1.below (n6.below (n1.below (Below.refl w.heap.size w) (Below.refl w.heap.size w).size) (n1.below (Below.refl w.heap.size w) (Below.refl w.heap.size w).size).size) (by omega)) (by omega))) (ArgsC.ext (um2.below (um1.below (n6.below (n1.below (Below.refl w.heap.size w) (Below.refl w.heap.size w).size) (n1.below (Below.refl w.heap.size w) (Below.refl w.heap.size w).size).size) (by omega)) (by omega)) args css ha) en_43 (tells_form ih (by omega) (um2.keep (um1.keep (n6.keep e1) (by first | assumption | omega | (simp; omega))) (by first | assumption | omega | (simp; omega))) (ArgsC.ext (um2.below (um1.below (n6.below (n1.below (Below.refl w.heap.size w) (Below.refl w.heap.size w).size) (n1.below (Below.refl w.heap.size w) (Below.refl w.heap.size w).size).size) (by omega)) (by omega)) args css ha)) (by omega)) ?_
    rintro _ w7 ⟨rfl, h7⟩
    have z_w7 := h7.size
    refine WO_pure (v := (.bool (!(args.any (formP k))))) rfl rfl ?_
    refine WO_pure (v := (.bool (!(args.any (formP k))))) rfl rfl ?_
    refine WO_nil ?_
    refine W_ret ?_
    refine body_ret1 rfl (v0 := (.bool (!(args.any (formP k))))) rfl ?_
    have hbel := (below_ext (um2.below (um1.below (n6.below (n1.below (Below.refl w.heap.size w) (Below.refl w.heap.size w).size) (n1.below (Below.refl w.heap.size w) (Below.refl w.heap.size w).size).size) (by omega)) (by omega)) h7)
    exact ⟨by unfold formB; rw [if_neg c1, form_bad, decide_eq_false c17, args_any]; simp, hbel⟩
theorem form_any (d : DepT) : FormSaid 23 d := by
 refine dep_all (C := fun d => FormSaid 23 d) (fun k nm op ev args ih => ?_) d
 intro w cs h hs
 unfold DepC at h
 obtain ⟨sv, css, rfl, hr, ha⟩ := h
 unfold DepT.size at hs
 exact form_step k op nm ev args sv css w hr ha (by omega) ih
end Go.Proofs.YtaegacblpbbndaaGreatDoor
end
section
namespace Go.Proofs.YtaegacblpbbndaaGreatDoor
open Go Go.RowKit
mutual
def namesN : DepT → Nat
 | .mk k _ _ _ args => (if k = 1 then 1 else 0) + argsNames args
def argsNames : List DepT → Nat
 | [] => 0
 | d :: r => namesN d + argsNames r
end
mutual
theorem namesN_le : ∀ d : DepT, namesN d ≤ d.size
 | .mk k nm _ ev args => by unfold namesN DepT.size; have := argsNames_le args; split <;> omega
theorem argsNames_le : ∀ l : List DepT, argsNames l ≤ argsSize l
 | [] => by simp [argsNames, argsSize]
 | d :: r => by unfold argsNames argsSize; have := namesN_le d; have := argsNames_le r; omega
end
theorem argsNames_take {l : List DepT} {i : Nat} (h : i < l.length) : argsNames (l.take (i + 1)) = argsNames (l.take i) + namesN (nth l i) := by
 induction l generalizing i with
 | nil => simp at h
 | cons d r ih =>
  cases i with
  | zero => simp [argsNames, nth]
  | succ i =>
   have := ih (i := i) (by simpa using h)
   simp only [List.take_succ_cons, argsNames, this]
   have hn : nth (d :: r) (i + 1) = nth r i := rfl
   rw [hn]; omega
theorem argsSize_take {l : List DepT} {i : Nat} (h : i < l.length) : argsSize (l.take i) + (nth l i).size ≤ argsSize l := by
 induction l generalizing i with
 | nil => simp at h
 | cons d r ih =>
  cases i with
  | zero => simp only [List.take_zero, argsSize]; show 0 + d.size ≤ _; omega
  | succ i =>
   have := ih (i := i) (by simpa using h)
   have hn : nth (d :: r) (i + 1) = nth r i := rfl
   simp only [List.take_succ_cons, argsSize, hn]; omega
def AllSaid (d : DepT) : Prop := ∀ (w0 w : World) (cs : List Value) (b0 m : Nat), DepC w0 d cs → Below w0.heap.size w0 w → w0.heap.size ≤ b0 → w.heap[b0]? = some (.cells #[.int .i64 ((m : Int))] 3 (0, 0)) → m + d.size ≤ 8388608 →
 Calls Tryz.prog 18 #[.agg cs.toArray, .func (.func 24) #[] #[.pointer (some ⟨b0, 0, none⟩)]] w (Ret fun v w' => w'.heap[b0]? = some (.cells #[.int .i64 (((m + namesN d : Nat) : Int))] 3 (0, 0)) ∧ w.grownBy w' (some b0))
theorem ArgsC.five {w : World} {args : List DepT} {css : List (List Value)} (h : ArgsC w args css) {i : Nat} (hi : i < args.length) : ∃ k nm op ev sv bs cs, nth css i = [.int .i64 k, S nm, .int .i64 op, S ev, sv] ∧ RowIs w sv bs.length 5 cs.flatten ∧ nth args i = .mk k nm op ev bs ∧ ArgsC w bs cs := by
 have h1 := ArgsC.at h i hi
 cases hd : nth args i with
 | mk k nm op ev bs =>
  rw [hd] at h1
  unfold DepC at h1
  obtain ⟨sv, cs, e, hr, hc⟩ := h1
  exact ⟨k, nm, op, ev, sv, bs, cs, e, hr, rfl, hc⟩
set_option maxHeartbeats 400000 in
set_option maxRecDepth 100000 in
theorem count_one (l : List UInt8) (b0 m : Nat) (w : World) (hc : w.heap[b0]? = some (.cells #[.int .i64 ((m : Int))] 3 (0, 0))) (hm : m ≤ 9000000) :
  Calls Tryz.prog 24 #[(S l), (.pointer (some ⟨b0, 0, none⟩))] w (Ret fun v w' => w'.heap[b0]? = some (.cells #[.int .i64 (((m + 1 : Nat) : Int))] 3 (0, 0)) ∧ w.grownBy w' (some b0)) := by
 refine calls_W Tryz.func24 rfl Tryz.ntmps24 ?_
 refine W_reg ?_
 refine WO_load (a := ⟨b0, 0, none⟩) (v := (.int .i64 ((m : Int)))) rfl rfl Tryz.underlying3 rfl (cell_of hc rfl) ?_
 refine WO_add (b := 1) (v := (m : Int) + 1) rfl rfl rfl (by simp only [kLo, kHi]; omega) ?_
 have p1 := hc
 refine WO_store (b := b0) (o := 0) (v := (.int .i64 ((m : Int) + 1))) rfl rfl rfl (fun _ => by kernel_rfl) rfl p1 (by simp) (fun w1 u1 => ?_)
 have e1 : w1.heap[b0]? = some (.cells #[(.int .i64 ((m : Int) + 1))] 3 (0, 0)) := u1.here
 have z1 := u1.size
 refine WO_nil ?_
 refine body_ret0 (fn := Tryz.f24) (by first | exact .inl rfl | exact .inr rfl) rfl ?_
 exact ⟨by simpa using e1, (grown_upd (grown_refl w _) u1 (by first | (left; omega) | (right; rfl)))⟩
set_option maxHeartbeats 1000000 in
set_option maxRecDepth 100000 in
theorem all_step (k op : Int) (nm ev : List UInt8) (args : List DepT) (sv : Value) (css : List (List Value)) (w0 w : World) (b0 m : Nat) (hr : RowIs w0 sv args.length 5 css.flatten) (ha : ArgsC w0 args css) (hbw : Below w0.heap.size w0 w) (hb0 : w0.heap.size ≤ b0) (hc : w.heap[b0]? = some (.cells #[.int .i64 ((m : Int))] 3 (0, 0))) (hm : m + (argsSize args + 1 + nm.length + ev.length) ≤ 8388608) (ih : ∀ i, i < args.length → AllSaid (nth args i)) :
  Calls Tryz.prog 18 #[(.agg #[(.int .i64 k), (S nm), (.int .i64 op), (S ev), sv]), (.func (.func 24) #[] #[.pointer (some ⟨b0, 0, none⟩)])] w (Ret fun v w' => w'.heap[b0]? = some (.cells #[.int .i64 (((m + namesN (.mk k nm op ev args) : Nat) : Int))] 3 (0, 0)) ∧ w.grownBy w' (some b0)) := by
 have hal := argsSize_len args
 have hbl := heap_lt hc
 have hbs := hbw.size
 refine calls_W Tryz.func18 rfl Tryz.ntmps18 ?_
 refine W_seq ?_
 refine W_reg ?_
 refine WO_box (v := (.agg #[(.int .i64 k), (S nm), (.int .i64 op), (S ev), sv])) rfl rfl (fun w1 n1 => ?_)
 have e1 : w1.heap[w.heap.size]? = some (.cells #[(.int .i64 k), (S nm), (.int .i64 op), (S ev), sv] 24 (0, 0)) := n1.here
 have z1 := n1.size
 refine WO_nil ?_
 refine W_seq ?_
 refine W_seq ?_
 refine W_reg ?_
 refine WO_same (v := (.pointer (some ⟨w.heap.size, 0, none⟩))) rfl (by kernel_rfl) ?_
 refine WO_load (a := ⟨w.heap.size, 0, none⟩) (v := (.int .i64 k)) rfl rfl Tryz.underlying3 rfl (cell_of e1 rfl) ?_
 refine WO_pure (v := (.bool (decide (k = 1)))) rfl rfl ?_
 refine WO_nil ?_
 refine W_if (p := k = 1) rfl (fun c1 => ?_) (fun c1 => ?_)
 ·refine W_reg ?_
  refine WO_pure (v := (.func (.func 24) #[] #[.pointer (some ⟨b0, 0, none⟩)])) rfl rfl ?_
  refine WO_same (v := (.pointer (some ⟨w.heap.size, 1, none⟩))) rfl (by kernel_rfl) ?_
  refine WO_load (a := ⟨w.heap.size, 1, none⟩) (v := (S nm)) rfl rfl Tryz.underlying9 rfl (cell_of e1 rfl) ?_
  refine WO_callv rfl rfl (by exact en_24) (count_one nm b0 m _ (n1.keep hc) (by omega)) ?_
  rintro _ wn ⟨hcn, gn⟩
  refine WO_nil ?_
  refine W_seq ?_
  refine W_reg ?_
  refine WO_same (v := (.pointer (some ⟨w.heap.size, 4, none⟩))) rfl (by kernel_rfl) ?_
  refine WO_load (a := ⟨w.heap.size, 4, none⟩) (v := sv) rfl rfl Tryz.underlying22 rfl (cell_of (grown_keep gn e1 (by first | assumption | omega | (intro e; have e2 := Option.some.inj e; omega) | (simp; omega))) rfl) ?_
  refine WO_lenrow (v := sv) (m := args.length) (sz := 5) rfl rfl (hr.ext (grown_below gn (n1.below (below_ext (Below.refl w0.heap.size w0) hbw) (below_ext (Below.refl w0.heap.size w0) hbw).size) (by intro k hk; cases hk; omega))) Tryz.underlying22 ?_
  refine WO_pure (v := (.int .i64 0)) rfl rfl ?_
  refine WO_nil ?_
  refine W_block ?_
  refine W_loop (fun g σ' w' => ∃ (i : Nat), σ' 1 = (.func (.func 24) #[] #[.pointer (some ⟨b0, 0, none⟩)]) ∧ σ' 14 = sv ∧ σ' 15 = (.int .i64 ((args.length : Int))) ∧ σ' 16 = (.int .i64 ((i : Int))) ∧ i ≤ args.length ∧ w.grownBy w' (some b0) ∧ w'.heap[b0]? = some (.cells #[.int .i64 (((m + 1 + argsNames (args.take i) : Nat) : Int))] 3 (0, 0)) ∧ g = args.length - i) ?_ ?_
  ·refine ⟨_, 0, rfl, rfl, rfl, rfl, ?_, ?_, ?_, rfl⟩
   ·omega
   ·exact (World.grownBy.trans (grown_new (grown_refl w _) n1) gn)
   ·simpa [argsNames] using hcn
  ·rintro g σl1 wl1 ⟨i, l1_1, l1_14, l1_15, l1_16, f1_1, f1_2, f1_3, rfl⟩
   refine W_anchor (d := 1) l1_1 (W_anchor (d := 14) l1_14 (W_anchor (d := 15) l1_15 (W_anchor (d := 16) l1_16 (?_))))
   have zf := f1_2.size
   refine W_seq ?_
   refine W_reg ?_
   refine WO_pure (v := (.bool (decide ((i : Int) < (args.length : Int))))) rfl rfl ?_
   refine WO_nil ?_
   refine W_seq ?_
   refine W_if (p := (i : Int) < (args.length : Int)) rfl (fun c2 => ?_) (fun c2 => ?_)
   ·refine W_skip ?_
    refine W_seq ?_
    refine W_block ?_
    refine W_seq ?_
    refine W_reg ?_
    refine WO_idxs (v := sv) (css := css) (i := i) rfl rfl rfl (hr.ext (grown_below f1_2 (below_ext (Below.refl w0.heap.size w0) hbw) (by intro k hk; cases hk; omega))) ha.each ha.len Tryz.underlying22 (fun _ => by kernel_rfl) (by first | rfl | omega) (by first | omega | (simp; done) | (simp; omega)) (fun b2 o2 x2 => ?_)
    refine WO_loads (vs := nth css i) (sz := 5) rfl rfl Tryz.underlying24 rfl (ha.each _ (nth_mem (by rw [ha.len]; omega))) (fun _ => by kernel_rfl) x2 ?_
    obtain ⟨ki, nmi, opi, evi, svi, bsi, csi, hxi, hri, hdi, hai⟩ := ArgsC.five ha (show i < args.length by omega)
    refine WO_eq 19 (v := .agg (nth css i).toArray) (v' := .agg #[.int .i64 ki, S nmi, .int .i64 opi, S evi, svi]) rfl (by rw [hxi]) ?_
    refine WO_alloc (v := (.agg #[(.int .i64 0), (S []), (.int .i64 0), (S []), (.slice none 0 0)])) rfl (fun _ => by kernel_rfl) (fun w3 n3 => ?_)
    have e3 : w3.heap[wl1.heap.size]? = some (.cells #[(.int .i64 0), (S []), (.int .i64 0), (S []), (.slice none 0 0)] 24 (0, 0)) := n3.here
    have z3 := n3.size
    have p4 := e3
    refine WO_storerow (b := wl1.heap.size) (o := 0) (c' := #[(.int .i64 ki), (S nmi), (.int .i64 opi), (S evi), svi]) rfl rfl rfl (fun _ => by kernel_rfl) (by rw [Array.all_eq_true_iff_forall_mem]; intro v hv; simp only [List.mem_toArray, List.mem_cons, List.not_mem_nil, or_false] at hv; rcases hv with hv | hv | hv | hv | hv <;> (rw [hv]; first | rfl | exact oneCell_is (hri.ext (n3.below (grown_below f1_2 (below_ext (Below.refl w0.heap.size w0) hbw) (by intro k hk; cases hk; omega)) (grown_below f1_2 (below_ext (Below.refl w0.heap.size w0) hbw) (by intro k hk; cases hk; omega)).size)))) p4 (by simp) (fun w4 u4 => ?_)
    have e4 : w4.heap[wl1.heap.size]? = some (.cells #[(.int .i64 ki), (S nmi), (.int .i64 opi), (S evi), svi] 24 (0, 0)) := u4.here
    have z4 := u4.size
    refine WO_nil ?_
    refine W_reg ?_
    refine WO_loadrow (b := wl1.heap.size) (o := 0) (m := 5) (c := #[(.int .i64 ki), (S nmi), (.int .i64 opi), (S evi), svi]) rfl rfl Tryz.underlying24 rfl (fun _ => by kernel_rfl) e4 (by simp) ?_
    refine WO_eq 20 (v' := (.agg #[(.int .i64 ki), (S nmi), (.int .i64 opi), (S evi), svi])) rfl rfl ?_
    refine WO_pure (v := (.func (.func 24) #[] #[.pointer (some ⟨b0, 0, none⟩)])) rfl rfl ?_
    refine WO_call rfl (by exact en_18) (ih i (by omega) w0 _ [.int .i64 ki, S nmi, .int .i64 opi, S evi, svi] b0 (m + 1 + argsNames (args.take i)) (by rw [← hxi]; exact ArgsC.at ha i (by omega)) (u4.below (n3.below (grown_below f1_2 (below_ext (Below.refl w0.heap.size w0) hbw) (by intro k hk; cases hk; omega)) (grown_below f1_2 (below_ext (Below.refl w0.heap.size w0) hbw) (by intro k hk; cases hk; omega)).size) (by omega)) hb0 (u4.keep (n3.keep f1_3) (heap_ne (n3.keep f1_3) p4 (by decide))) (by have := argsNames_le (args.take i); have := argsSize_take (show i < args.length by omega); omega)) ?_
    rintro _ wa5 ⟨hca5, ga5⟩
    refine WO_nil ?_
    refine W_reg ?_
    refine WO_add (b := 1) (v := (i : Int) + 1) rfl rfl rfl (by simp only [kLo, kHi]; omega) ?_
    refine WO_pure (v := (.int .i64 ((i : Int) + 1))) rfl rfl ?_
    refine WO_nil ?_
    refine ⟨_, ?_, i + 1, rfl, rfl, rfl, rfl, ?_, ?_, ?_, rfl⟩
    ·omega
    ·omega
    ·exact (World.grownBy.trans (grown_upd (grown_new f1_2 n3) u4 (by first | (left; omega) | (right; rfl))) ga5)
    ·rw [argsNames_take (l := args) (i := i) (by omega), ← Nat.add_assoc]; exact hca5
   ·refine W_exit ?_
    refine body_ret0 (fn := Tryz.f18) (by first | exact .inl rfl | exact .inr rfl) rfl ?_
    refine ⟨?_, f1_2⟩
    have e := f1_3
    rw [List.take_of_length_le (by omega)] at e
    unfold namesN
    rw [if_pos c1, show m + (1 + argsNames args) = m + 1 + argsNames args by omega]
    exact e
 ·refine W_skip ?_
  refine W_seq ?_
  refine W_reg ?_
  refine WO_same (v := (.pointer (some ⟨w.heap.size, 4, none⟩))) rfl (by kernel_rfl) ?_
  refine WO_load (a := ⟨w.heap.size, 4, none⟩) (v := sv) rfl rfl Tryz.underlying22 rfl (cell_of e1 rfl) ?_
  refine WO_lenrow (v := sv) (m := args.length) (sz := 5) rfl rfl ((hr.ext hbw).ext n1.ext) Tryz.underlying22 ?_
  refine WO_pure (v := (.int .i64 0)) rfl rfl ?_
  refine WO_nil ?_
  refine W_block ?_
  refine W_loop (fun g σ' w' => ∃ (i : Nat), σ' 1 = (.func (.func 24) #[] #[.pointer (some ⟨b0, 0, none⟩)]) ∧ σ' 14 = sv ∧ σ' 15 = (.int .i64 ((args.length : Int))) ∧ σ' 16 = (.int .i64 ((i : Int))) ∧ i ≤ args.length ∧ w.grownBy w' (some b0) ∧ w'.heap[b0]? = some (.cells #[.int .i64 (((m + 0 + argsNames (args.take i) : Nat) : Int))] 3 (0, 0)) ∧ g = args.length - i) ?_ ?_
  ·refine ⟨_, 0, rfl, rfl, rfl, rfl, ?_, ?_, ?_, rfl⟩
   ·omega
   ·exact (grown_new (grown_refl w _) n1)
   ·simpa [argsNames] using (n1.keep hc)
  ·rintro g σl2 wl2 ⟨i, l2_1, l2_14, l2_15, l2_16, f2_1, f2_2, f2_3, rfl⟩
   refine W_anchor (d := 1) l2_1 (W_anchor (d := 14) l2_14 (W_anchor (d := 15) l2_15 (W_anchor (d := 16) l2_16 (?_))))
   have zf := f2_2.size
   refine W_seq ?_
   refine W_reg ?_
   refine WO_pure (v := (.bool (decide ((i : Int) < (args.length : Int))))) rfl rfl ?_
   refine WO_nil ?_
   refine W_seq ?_
   refine W_if (p := (i : Int) < (args.length : Int)) rfl (fun c3 => ?_) (fun c3 => ?_)
   ·refine W_skip ?_
    refine W_seq ?_
    refine W_block ?_
    refine W_seq ?_
    refine W_reg ?_
    refine WO_idxs (v := sv) (css := css) (i := i) rfl rfl rfl (hr.ext (grown_below f2_2 (below_ext (Below.refl w0.heap.size w0) hbw) (by intro k hk; cases hk; omega))) ha.each ha.len Tryz.underlying22 (fun _ => by kernel_rfl) (by first | rfl | omega) (by first | omega | (simp; done) | (simp; omega)) (fun b6 o6 x6 => ?_)
    refine WO_loads (vs := nth css i) (sz := 5) rfl rfl Tryz.underlying24 rfl (ha.each _ (nth_mem (by rw [ha.len]; omega))) (fun _ => by kernel_rfl) x6 ?_
    obtain ⟨ki, nmi, opi, evi, svi, bsi, csi, hxi, hri, hdi, hai⟩ := ArgsC.five ha (show i < args.length by omega)
    refine WO_eq 19 (v := .agg (nth css i).toArray) (v' := .agg #[.int .i64 ki, S nmi, .int .i64 opi, S evi, svi]) rfl (by rw [hxi]) ?_
    refine WO_alloc (v := (.agg #[(.int .i64 0), (S []), (.int .i64 0), (S []), (.slice none 0 0)])) rfl (fun _ => by kernel_rfl) (fun w7 n7 => ?_)
    have e7 : w7.heap[wl2.heap.size]? = some (.cells #[(.int .i64 0), (S []), (.int .i64 0), (S []), (.slice none 0 0)] 24 (0, 0)) := n7.here
    have z7 := n7.size
    have p8 := e7
    refine WO_storerow (b := wl2.heap.size) (o := 0) (c' := #[(.int .i64 ki), (S nmi), (.int .i64 opi), (S evi), svi]) rfl rfl rfl (fun _ => by kernel_rfl) (by rw [Array.all_eq_true_iff_forall_mem]; intro v hv; simp only [List.mem_toArray, List.mem_cons, List.not_mem_nil, or_false] at hv; rcases hv with hv | hv | hv | hv | hv <;> (rw [hv]; first | rfl | exact oneCell_is (hri.ext (n7.below (grown_below f2_2 (below_ext (Below.refl w0.heap.size w0) hbw) (by intro k hk; cases hk; omega)) (grown_below f2_2 (below_ext (Below.refl w0.heap.size w0) hbw) (by intro k hk; cases hk; omega)).size)))) p8 (by simp) (fun w8 u8 => ?_)
    have e8 : w8.heap[wl2.heap.size]? = some (.cells #[(.int .i64 ki), (S nmi), (.int .i64 opi), (S evi), svi] 24 (0, 0)) := u8.here
    have z8 := u8.size
    refine WO_nil ?_
    refine W_reg ?_
    refine WO_loadrow (b := wl2.heap.size) (o := 0) (m := 5) (c := #[(.int .i64 ki), (S nmi), (.int .i64 opi), (S evi), svi]) rfl rfl Tryz.underlying24 rfl (fun _ => by kernel_rfl) e8 (by simp) ?_
    refine WO_eq 20 (v' := (.agg #[(.int .i64 ki), (S nmi), (.int .i64 opi), (S evi), svi])) rfl rfl ?_
    refine WO_pure (v := (.func (.func 24) #[] #[.pointer (some ⟨b0, 0, none⟩)])) rfl rfl ?_
    refine WO_call rfl (by exact en_18) (ih i (by omega) w0 _ [.int .i64 ki, S nmi, .int .i64 opi, S evi, svi] b0 (m + 0 + argsNames (args.take i)) (by rw [← hxi]; exact ArgsC.at ha i (by omega)) (u8.below (n7.below (grown_below f2_2 (below_ext (Below.refl w0.heap.size w0) hbw) (by intro k hk; cases hk; omega)) (grown_below f2_2 (below_ext (Below.refl w0.heap.size w0) hbw) (by intro k hk; cases hk; omega)).size) (by omega)) hb0 (u8.keep (n7.keep f2_3) (heap_ne (n7.keep f2_3) p8 (by decide))) (by have := argsNames_le (args.take i); have := argsSize_take (show i < args.length by omega); omega)) ?_
    rintro _ wa9 ⟨hca9, ga9⟩
    refine WO_nil ?_
    refine W_reg ?_
    refine WO_add (b := 1) (v := (i : Int) + 1) rfl rfl rfl (by simp only [kLo, kHi]; omega) ?_
    refine WO_pure (v := (.int .i64 ((i : Int) + 1))) rfl rfl ?_
    refine WO_nil ?_
    refine ⟨_, ?_, i + 1, rfl, rfl, rfl, rfl, ?_, ?_, ?_, rfl⟩
    ·omega
    ·omega
    ·exact (World.grownBy.trans (grown_upd (grown_new f2_2 n7) u8 (by first | (left; omega) | (right; rfl))) ga9)
    ·rw [argsNames_take (l := args) (i := i) (by omega), ← Nat.add_assoc]; exact hca9
   ·refine W_exit ?_
    refine body_ret0 (fn := Tryz.f18) (by first | exact .inl rfl | exact .inr rfl) rfl ?_
    refine ⟨?_, f2_2⟩
    have e := f2_3
    rw [List.take_of_length_le (by omega)] at e
    unfold namesN
    rw [if_neg c1, show m + (0 + argsNames args) = m + 0 + argsNames args by omega]
    exact e
theorem all_any (d : DepT) : AllSaid d := by
 refine dep_all (C := AllSaid) (fun k nm op ev args ih => ?_) d
 intro w0 w cs b0 m h hbw hb0 hc hm
 unfold DepC at h
 obtain ⟨sv, css, rfl, hr, ha⟩ := h
 unfold DepT.size at hm
 exact all_step k op nm ev args sv css w0 w b0 m hr ha hbw hb0 hc hm ih
end Go.Proofs.YtaegacblpbbndaaGreatDoor
end
section
namespace Go.Proofs.YtaegacblpbbndaaGreatDoor
open Go Go.RowKit
mutual
theorem names_parts : ∀ d : DepT, formB d = true → namesN d = partsN d
 | .mk k nm op ev args, h => by
  unfold formB at h
  unfold namesN partsN
  by_cases hk : k = 1
  ·rw [if_pos hk] at h
   rw [if_pos hk, if_pos hk]
   rw [form_name] at h
   have h0 := (of_decide_eq_true h).2.1
   rw [List.length_eq_zero_iff.1 h0]; rfl
  ·rw [if_neg hk] at h
   rw [if_neg hk, if_neg hk]
   simp only [Bool.and_eq_true] at h
   rw [argsNames_parts k args h.2]; omega
theorem argsNames_parts (k : Int) : ∀ l : List DepT, argsForm k l = true → argsNames l = argsParts l
 | [], _ => rfl
 | d :: r, h => by
  unfold argsForm at h
  simp only [Bool.and_eq_true] at h
  unfold argsNames argsParts
  rw [names_parts d h.2.1, argsNames_parts k r h.2.2]
end
set_option maxHeartbeats 400000 in
set_option maxRecDepth 100000 in
theorem check_step (k op : Int) (nm ev : List UInt8) (args : List DepT) (sv : Value) (css : List (List Value)) (w : World) (hr : RowIs w sv args.length 5 css.flatten) (ha : ArgsC w args css) (hs : argsSize args + 1 + nm.length + ev.length ≤ 4194304) :
  Calls Tryz.prog 12 #[(.agg #[(.int .i64 k), (S nm), (.int .i64 op), (S ev), sv])] w (Ret fun v w' => v = .int .i64 (checkE (.mk k nm op ev args)) ∧ Below w.heap.size w w') := by
 have hd0 : DepC w (.mk k nm op ev args) [.int .i64 k, S nm, .int .i64 op, S ev, sv] := by unfold DepC; exact ⟨sv, css, rfl, hr, ha⟩
 refine calls_W Tryz.func12 rfl Tryz.ntmps12 ?_
 refine W_seq ?_
 refine W_reg ?_
 refine WO_box (v := (.agg #[(.int .i64 k), (S nm), (.int .i64 op), (S ev), sv])) rfl rfl (fun w1 n1 => ?_)
 have e1 : w1.heap[w.heap.size]? = some (.cells #[(.int .i64 k), (S nm), (.int .i64 op), (S ev), sv] 24 (0, 0)) := n1.here
 have z1 := n1.size
 refine WO_pure (v := (.int .i64 0)) rfl rfl ?_
 refine WO_nil ?_
 refine W_seq ?_
 refine W_seq ?_
 refine W_reg ?_
 refine WO_loadrow (b := w.heap.size) (o := 0) (m := 5) (c := #[(.int .i64 k), (S nm), (.int .i64 op), (S ev), sv]) rfl rfl Tryz.underlying24 rfl (fun _ => by kernel_rfl) e1 (by simp) ?_
 refine WO_eq 4 (v' := (.agg #[(.int .i64 k), (S nm), (.int .i64 op), (S ev), sv])) rfl rfl ?_
 refine WO_call rfl (by exact en_23) (form_any (DepT.mk k nm op ev args) _ _ (hd0.ext (n1.below (Below.refl w.heap.size w) (Below.refl w.heap.size w).size) _ _) (by unfold DepT.size; omega)) ?_
 rintro _ w2 ⟨rfl, h2⟩
 have z_w2 := h2.size
 refine WO_pure (v := (.bool (!(formB (DepT.mk k nm op ev args))))) rfl rfl ?_
 refine WO_nil ?_
 refine W_cond (t := !(formB (DepT.mk k nm op ev args))) rfl (fun c1 => ?_) (fun c1 => ?_)
 ·refine W_seq ?_
  refine W_reg ?_
  refine WO_pure (v := (.int .i64 50)) rfl rfl ?_
  refine WO_nil ?_
  refine W_ret ?_
  refine body_ret1 rfl (v0 := (.int .i64 50)) rfl ?_
  have hbel := (below_ext (n1.below (Below.refl w.heap.size w) (Below.refl w.heap.size w).size) h2)
  exact ⟨by unfold checkE; rw [show formB (DepT.mk k nm op ev args) = false by simpa using c1]; rfl, hbel⟩
 ·refine W_skip ?_
  refine W_seq ?_
  refine W_reg ?_
  refine WO_alloc (v := (.int .i64 0)) rfl (fun _ => by kernel_rfl) (fun w3 n3 => ?_)
  have e3 : w3.heap[w2.heap.size]? = some (.cells #[(.int .i64 0)] 3 (0, 0)) := n3.here
  have z3 := n3.size
  have p4 := e3
  refine WO_store (b := w2.heap.size) (o := 0) (v := (.int .i64 0)) rfl rfl rfl (fun _ => by kernel_rfl) rfl p4 (by simp) (fun w4 u4 => ?_)
  have e4 : w4.heap[w2.heap.size]? = some (.cells #[(.int .i64 0)] 3 (0, 0)) := u4.here
  have z4 := u4.size
  refine WO_nil ?_
  refine W_seq ?_
  refine W_reg ?_
  refine WO_loadrow (b := w.heap.size) (o := 0) (m := 5) (c := #[(.int .i64 k), (S nm), (.int .i64 op), (S ev), sv]) rfl rfl Tryz.underlying24 rfl (fun _ => by kernel_rfl) (u4.keep (n3.keep (below_keep h2 e1)) (heap_ne (n3.keep (below_keep h2 e1)) p4 (by decide))) (by simp) ?_
  refine WO_eq 7 (v' := (.agg #[(.int .i64 k), (S nm), (.int .i64 op), (S ev), sv])) rfl rfl ?_
  refine WO_same (v := (.func (.func 24) #[] #[.pointer (some ⟨w2.heap.size, 0, none⟩)])) rfl (by kernel_rfl) ?_
  refine WO_call rfl (by exact en_18) (all_any (DepT.mk k nm op ev args) w _ _ w2.heap.size 0 hd0 (u4.below (n3.below (below_ext (n1.below (Below.refl w.heap.size w) (Below.refl w.heap.size w).size) h2) (below_ext (n1.below (Below.refl w.heap.size w) (Below.refl w.heap.size w).size) h2).size) (by omega)) (by omega) (by simpa using e4) (by unfold DepT.size; omega)) ?_
  rintro _ wa ⟨hca, ga⟩
  have z_wa := ga.size
  refine WO_nil ?_
  refine W_seq ?_
  refine W_seq ?_
  refine W_reg ?_
  refine WO_load (a := ⟨w2.heap.size, 0, none⟩) (v := (.int .i64 (((0 + namesN (DepT.mk k nm op ev args) : Nat) : Int)))) rfl rfl Tryz.underlying3 rfl (cell_of hca rfl) ?_
  refine WO_pure (v := (.bool (decide (16 < ((0 + namesN (DepT.mk k nm op ev args) : Nat) : Int))))) rfl rfl ?_
  refine WO_nil ?_
  refine W_if (p := 16 < ((0 + namesN (DepT.mk k nm op ev args) : Nat) : Int)) rfl (fun c2 => ?_) (fun c2 => ?_)
  ·refine W_seq ?_
   refine W_reg ?_
   refine WO_pure (v := (.int .i64 51)) rfl rfl ?_
   refine WO_nil ?_
   refine W_ret ?_
   refine body_ret1 rfl (v0 := (.int .i64 51)) rfl ?_
   have hbel := (grown_below ga (u4.below (n3.below (below_ext (n1.below (Below.refl w.heap.size w) (Below.refl w.heap.size w).size) h2) (below_ext (n1.below (Below.refl w.heap.size w) (Below.refl w.heap.size w).size) h2).size) (by omega)) (by intro k hk; cases hk; omega))
   exact ⟨by unfold checkE; rw [show formB (DepT.mk k nm op ev args) = true by simpa using c1, if_pos rfl, ← names_parts _ (show formB (DepT.mk k nm op ev args) = true by simpa using c1), if_pos (by omega)], hbel⟩
  ·refine W_skip ?_
   refine W_seq ?_
   refine W_reg ?_
   refine WO_pure (v := (.int .i64 0)) rfl rfl ?_
   refine WO_nil ?_
   refine W_ret ?_
   refine body_ret1 rfl (v0 := (.int .i64 0)) rfl ?_
   have hbel := (grown_below ga (u4.below (n3.below (below_ext (n1.below (Below.refl w.heap.size w) (Below.refl w.heap.size w).size) h2) (below_ext (n1.below (Below.refl w.heap.size w) (Below.refl w.heap.size w).size) h2).size) (by omega)) (by intro k hk; cases hk; omega))
   exact ⟨by unfold checkE; rw [show formB (DepT.mk k nm op ev args) = true by simpa using c1, if_pos rfl, ← names_parts _ (show formB (DepT.mk k nm op ev args) = true by simpa using c1), if_neg (by omega)], hbel⟩
theorem check_any {w : World} (d : DepT) (cs : List Value) (h : DepC w d cs) (hs : d.size ≤ 4194304) : Calls Tryz.prog 12 #[.agg cs.toArray] w (Ret fun v w' => v = .int .i64 (checkE d) ∧ Below w.heap.size w w') := by
 cases d with
 | mk k nm op ev args =>
  unfold DepC at h
  obtain ⟨sv, css, rfl, hr, ha⟩ := h
  unfold DepT.size at hs
  exact check_step k op nm ev args sv css w hr ha (by omega)
end Go.Proofs.YtaegacblpbbndaaGreatDoor
end
section
namespace Go.Proofs.YtaegacblpbbndaaGreatDoor
open Go Go.RowKit
def skipB : List UInt8 → List UInt8
 | [] => []
 | c :: r => if c = 32 then skipB r else c :: r
def scanW : List UInt8 → Nat → Nat
 | [], _ => 0
 | c :: r, n => if c = 32 then 0 else if c = 41 then (if n = 0 then 0 else scanW r (n - 1) + 1) else if c = 40 then scanW r (n + 1) + 1 else scanW r n + 1
def nextW (s : List UInt8) : List UInt8 × List UInt8 := match skipB s with
 | [] => ([], [])
 | c :: r => if c = 40 ∨ c = 41 then ([c], r) else ((c :: r).take (scanW (c :: r) 0), (c :: r).drop (scanW (c :: r) 0))
def wordsN : Nat → List UInt8 → List (List UInt8)
 | 0, _ => []
 | n + 1, s => if (nextW s).1 = [] then [] else (nextW s).1 :: wordsN n (nextW s).2
def wordsOf (s : List UInt8) : List (List UInt8) := wordsN s.length s
theorem skipB_le : ∀ s, (skipB s).length ≤ s.length
 | [] => by simp [skipB]
 | c :: r => by unfold skipB; have := skipB_le r; split <;> simp <;> omega
theorem skipB_head : ∀ {s c r}, skipB s = c :: r → c ≠ 32
 | [], _, _, h => by simp [skipB] at h
 | a :: s, c, r, h => by
  unfold skipB at h
  split at h
  ·exact skipB_head h
  ·rename_i hne; cases h; exact hne
theorem scanW_pos {c : UInt8} {r : List UInt8} (h1 : c ≠ 32) (h2 : c ≠ 41) : 1 ≤ scanW (c :: r) 0 := by
 unfold scanW; rw [if_neg h1, if_neg h2]; split <;> omega
theorem next_len {s : List UInt8} (h : (nextW s).1 ≠ []) : (nextW s).2.length < s.length := by
 have hle := skipB_le s
 unfold nextW at h ⊢
 cases hs : skipB s with
 | nil => rw [hs] at h; exact absurd rfl h
 | cons c r =>
  rw [hs] at hle
  simp only [List.length_cons] at hle
  simp only
  split
  ·show r.length < _; omega
  ·rename_i hc
   have := scanW_pos (r := r) (skipB_head hs) (fun e => hc (.inr e))
   show ((c :: r).drop _).length < _
   rw [List.length_drop, List.length_cons]; omega
theorem wordsN_any : ∀ (n m : Nat) (s : List UInt8), s.length ≤ n → s.length ≤ m → wordsN n s = wordsN m s
 | 0, m, s, hn, _ => by
  have : s = [] := List.length_eq_zero_iff.1 (by omega)
  subst this
  cases m <;> rfl
 | n + 1, 0, s, _, hm => by
  have : s = [] := List.length_eq_zero_iff.1 (by omega)
  subst this; rfl
 | n + 1, m + 1, s, hn, hm => by
  unfold wordsN
  split
  ·rfl
  ·rename_i h
   have := next_len h
   rw [wordsN_any n m _ (by omega) (by omega)]
theorem wordsOf_step (s : List UInt8) : wordsOf s = if (nextW s).1 = [] then [] else (nextW s).1 :: wordsOf (nextW s).2 := by
 unfold wordsOf
 cases hs : s.length with
 | zero =>
  have : s = [] := List.length_eq_zero_iff.1 hs
  subst this; rfl
 | succ n =>
  conv => lhs; unfold wordsN
  split
  ·rfl
  ·rename_i h
   have := next_len h
   rw [wordsN_any n _ _ (by omega) (Nat.le_refl _)]
theorem wordsOf_nil : wordsOf [] = [] := rfl
section
variable {s : List UInt8} {j o : Nat}
theorem toNat_eq {c : UInt8} {k : Nat} (hk : k < 256) : ((c.toNat : Int) = (k : Int)) ↔ c = UInt8.ofNat k := by
 constructor
 ·intro h
  apply UInt8.toNat_inj.1
  rw [UInt8.toNat_ofNat']
  omega
 ·rintro rfl; rw [UInt8.toNat_ofNat']; omega
theorem e32 {c : UInt8} : ((c.toNat : Int) = 32) ↔ c = 32 := toNat_eq (k := 32) (by omega)
theorem e40 {c : UInt8} : ((c.toNat : Int) = 40) ↔ c = 40 := toNat_eq (k := 40) (by omega)
theorem e41 {c : UInt8} : ((c.toNat : Int) = 41) ↔ c = 41 := toNat_eq (k := 41) (by omega)
theorem scan_end (h : ¬ (j < s.length ∧ ¬ ((byteAt s j).toNat : Int) = 32)) : scanW (s.drop j) o = 0 := by
 by_cases hj : j < s.length
 ·have h2 : ((byteAt s j).toNat : Int) = 32 := Decidable.byContradiction fun h2 => h ⟨hj, h2⟩
  rw [drop_byte hj, scanW, if_pos (e32.1 h2)]
 ·rw [List.drop_of_length_le (by omega)]; rfl
theorem scan_stop (h1 : j < s.length ∧ ¬ ((byteAt s j).toNat : Int) = 32) (h : ((byteAt s j).toNat : Int) = 41 ∧ o = 0) : scanW (s.drop j) o = 0 := by
 rw [drop_byte h1.1, scanW, if_neg (fun e => h1.2 (e32.2 e)), if_pos (e41.1 h.1), if_pos h.2]
theorem scan_open (h1 : j < s.length ∧ ¬ ((byteAt s j).toNat : Int) = 32) (h2 : ((byteAt s j).toNat : Int) = 40) : scanW (s.drop j) o = scanW (s.drop (j + 1)) (o + 1) + 1 := by
 rw [drop_byte h1.1, scanW, if_neg (fun e => h1.2 (e32.2 e)), if_neg (fun e => by have := e41.2 e; omega), if_pos (e40.1 h2)]
theorem scan_close (h1 : j < s.length ∧ ¬ ((byteAt s j).toNat : Int) = 32) (h2 : ((byteAt s j).toNat : Int) = 41) (ho : o ≠ 0) : scanW (s.drop j) o = scanW (s.drop (j + 1)) (o - 1) + 1 := by
 rw [drop_byte h1.1, scanW, if_neg (fun e => h1.2 (e32.2 e)), if_pos (e41.1 h2), if_neg ho]
theorem scan_else (h1 : j < s.length ∧ ¬ ((byteAt s j).toNat : Int) = 32) (h2 : ¬ ((byteAt s j).toNat : Int) = 40) (h3 : ¬ ((byteAt s j).toNat : Int) = 41) : scanW (s.drop j) o = scanW (s.drop (j + 1)) o + 1 := by
 rw [drop_byte h1.1, scanW, if_neg (fun e => h1.2 (e32.2 e)), if_neg (fun e => h3 (e41.2 e)), if_neg (fun e => h2 (e40.2 e))]
end
theorem take_one {s : List UInt8} {i : Nat} (h : i < s.length) : (s.take (i + 1)).drop i = [byteAt s i] := by
 rw [List.drop_take, show i + 1 - i = 1 by omega, drop_byte h]; rfl
end Go.Proofs.YtaegacblpbbndaaGreatDoor
end
section
namespace Go.Proofs.YtaegacblpbbndaaGreatDoor
open Go Go.RowKit
theorem en_46 : Enters Tryz.prog 46 := enters_of Tryz.func46 (by kernel_rfl) rfl
theorem en_77 : Enters Tryz.prog 77 := enters_of Tryz.func77 (by kernel_rfl) rfl
theorem en_47 : Enters Tryz.prog 47 := enters_of Tryz.func47 (by kernel_rfl) rfl
theorem en_81 : Enters Tryz.prog 81 := enters_of Tryz.func81 (by kernel_rfl) rfl
theorem en_28 : Enters Tryz.prog 28 := enters_of Tryz.func28 (by kernel_rfl) rfl
theorem en_48 : Enters Tryz.prog 48 := enters_of Tryz.func48 (by kernel_rfl) rfl
theorem skip_step {t : List UInt8} (h : 0 < t.length ∧ ((byteAt t 0).toNat : Int) = 32) : skipB t = skipB (t.drop 1) := by
 cases t with
 | nil => simp at h
 | cons c r =>
  have hc : c = 32 := e32.1 h.2
  show skipB (c :: r) = skipB r
  rw [skipB, if_pos hc]
theorem skip_done {t : List UInt8} (h : ¬ (0 < t.length ∧ ((byteAt t 0).toNat : Int) = 32)) : skipB t = t := by
 cases t with
 | nil => rfl
 | cons c r =>
  rw [skipB, if_neg (fun (e : c = 32) => h ⟨by simp, e32.2 e⟩)]
def headIs (s : List UInt8) (c : UInt8) : Bool := decide (s.take 1 = [c])
theorem head_nil {s : List UInt8} {c : UInt8} (h : s.length < 1) : headIs s c = false := by
 have : s = [] := List.length_eq_zero_iff.1 (by omega)
 subst this; simp [headIs]
theorem head_at {s : List UInt8} {c : UInt8} : headIs s c = true ↔ 0 < s.length ∧ byteAt s 0 = c := by
 unfold headIs
 rw [decide_eq_true_eq]
 cases s with
 | nil => simp
 | cons a r => simp [byteAt]
set_option maxHeartbeats 400000 in
set_option maxRecDepth 100000 in
theorem trimByte_any (s : List UInt8) (w : World) (hl : s.length ≤ 9223372036854775807) :
  Calls Tryz.prog 77 #[(S s), (.int .u8 32)] w (Ret fun v w' => v = S (skipB s) ∧ w = w') := by
 refine calls_W Tryz.func77 rfl Tryz.ntmps77 ?_
 refine W_seq ?_
 refine W_reg ?_
 refine WO_pure (v := (S [])) rfl rfl ?_
 refine WO_nil ?_
 refine W_seq ?_
 refine W_block ?_
 refine W_loop (fun g σ' w' => ∃ (t : List UInt8), w = w' ∧ σ' 0 = (S t) ∧ σ' 1 = (.int .u8 32) ∧ t.length ≤ s.length ∧ skipB s = skipB t ∧ g = t.length) ?_ ?_
 ·refine ⟨_, s, rfl, rfl, rfl, ?_, ?_, rfl⟩
  ·omega
  ·rfl
 ·rintro g σl1 _ ⟨t, rfl, l1_0, l1_1, f1_1, f1_2, rfl⟩
  refine W_anchor (d := 0) l1_0 (W_anchor (d := 1) l1_1 (?_))
  refine W_seq ?_
  refine W_cut (fun σ' w' => w = w' ∧ σ' 0 = (S t) ∧ σ' 1 = (.int .u8 32) ∧ σ' 13 = (.bool (decide (0 < t.length ∧ ((byteAt t 0).toNat : Int) = 32)))) ?_ ?_
  ·refine W_reg ?_
   refine WO_pure (v := (S t)) rfl rfl ?_
   refine WO_slen (l := t) rfl rfl Tryz.underlying9 ?_
   refine WO_pure (v := (.bool (decide (0 < (t.length : Int))))) rfl rfl ?_
   refine WO_pure (v := (.bool (decide (0 < (t.length : Int))))) rfl rfl ?_
   refine WO_splitp 8 (p := 0 < (t.length : Int)) (by exact rfl) (fun c1 => ?_) (fun c1 => ?_)
   ·refine WO_pure (v := (S t)) rfl rfl ?_
    refine WO_sidx (l := t) (j := 0) rfl rfl rfl Tryz.underlying9 (by first | rfl | omega) (by first | omega | (simp; done) | (simp; omega)) ?_
    refine WO_pure (v := (.int .u8 32)) rfl rfl ?_
    refine WO_pure (v := (.bool (decide (((byteAt t 0).toNat : Int) = 32)))) rfl rfl ?_
    refine WO_pure (v := (.bool (decide (((byteAt t 0).toNat : Int) = 32)))) rfl rfl ?_
    refine WO_nil ?_
    exact ⟨rfl, rfl, rfl, (by show ((.bool (decide (((byteAt t 0).toNat : Int) = 32))) : Value) = (.bool (decide (0 < t.length ∧ ((byteAt t 0).toNat : Int) = 32))); show Value.bool _ = Value.bool _; rw [Value.bool.injEq, Bool.eq_iff_iff]; first | (simp [c1]; done) | (simp [c1]; omega) | (simp_all []; done) | (simp_all []; omega) | (simp only [Bool.or_eq_true, Bool.and_eq_true, Bool.not_eq_true', decide_eq_true_eq, decide_eq_false_iff_not]; grind))⟩
   ·refine WO_pass rfl ?_
    refine WO_pass rfl ?_
    refine WO_pass rfl ?_
    refine WO_pass rfl ?_
    refine WO_pure (v := (.bool false)) rfl rfl ?_
    refine WO_nil ?_
    exact ⟨rfl, rfl, rfl, (by show ((.bool false) : Value) = (.bool (decide (0 < t.length ∧ ((byteAt t 0).toNat : Int) = 32))); show Value.bool _ = Value.bool _; rw [Value.bool.injEq, Bool.eq_iff_iff]; first | (simp [c1]; done) | (simp [c1]; omega) | (simp_all []; done) | (simp_all []; omega) | (simp only [Bool.or_eq_true, Bool.and_eq_true, Bool.not_eq_true', decide_eq_true_eq, decide_eq_false_iff_not]; grind))⟩
  ·rintro σ1 _ ⟨rfl, h1_0, h1_1, h1_13⟩
   refine W_anchor (d := 0) h1_0 (W_anchor (d := 1) h1_1 (W_anchor (d := 13) h1_13 (?_)))
   refine W_if (p := 0 < t.length ∧ ((byteAt t 0).toNat : Int) = 32) rfl (fun c2 => ?_) (fun c2 => ?_)
   ·refine W_skip ?_
    refine W_block ?_
    refine W_reg ?_
    refine WO_pure (v := (S t)) rfl rfl ?_
    refine WO_sslo (l := t) (i := 1) rfl rfl rfl Tryz.underlying9 (by first | rfl | omega) (by first | omega | (simp; done) | (simp; omega)) ?_
    refine WO_pure (v := (S ((t.drop 1)))) rfl rfl ?_
    refine WO_nil ?_
    refine ⟨_, ?_, (t.drop 1), rfl, rfl, rfl, ?_, ?_, rfl⟩
    ·rw [List.length_drop]; omega
    ·rw [List.length_drop]; omega
    ·rw [f1_2, skip_step c2]
   ·refine W_exit ?_
    refine W_seq ?_
    refine W_reg ?_
    refine WO_pure (v := (S t)) rfl rfl ?_
    refine WO_pure (v := (S t)) rfl rfl ?_
    refine WO_nil ?_
    refine W_ret ?_
    refine body_ret1 rfl (v0 := (S t)) rfl ?_
    exact ⟨by rw [f1_2, skip_done c2], rfl⟩
set_option maxHeartbeats 400000 in
set_option maxRecDepth 100000 in
theorem TrimLeft_any (s : List UInt8) (w : World) (hl : s.length ≤ 9223372036854775807) :
  Calls Tryz.prog 46 #[(S s), (S ([32]))] w (Ret fun v w' => v = S (skipB s) ∧ w = w') := by
 refine calls_W Tryz.func46 rfl Tryz.ntmps46 ?_
 refine W_seq ?_
 refine W_reg ?_
 refine WO_pure (v := (S [])) rfl rfl ?_
 refine WO_nil ?_
 refine W_seq ?_
 refine W_cut (fun σ' w' => w = w' ∧ σ' 0 = (S s) ∧ σ' 1 = (S ([32])) ∧ σ' 12 = (.bool (decide (s = [])))) ?_ ?_
 ·refine W_reg ?_
  refine WO_pure (v := (S s)) rfl rfl ?_
  refine WO_seql (l1 := s) (l2 := []) rfl rfl rfl ?_
  refine WO_pure (v := (.bool (decide (s = [])))) rfl rfl ?_
  refine WO_splitp 9 (p := s = []) (by exact rfl) (fun c1 => ?_) (fun c1 => ?_)
  ·refine WO_pass rfl ?_
   refine WO_pass rfl ?_
   refine WO_pure (v := (.bool true)) rfl rfl ?_
   refine WO_nil ?_
   exact ⟨rfl, rfl, rfl, (by show ((.bool true) : Value) = (.bool (decide (s = []))); show Value.bool _ = Value.bool _; rw [Value.bool.injEq, Bool.eq_iff_iff]; first | (simp [c1]; done) | (simp [c1]; omega) | (simp_all []; done) | (simp_all []; omega) | (simp only [Bool.or_eq_true, Bool.and_eq_true, Bool.not_eq_true', decide_eq_true_eq, decide_eq_false_iff_not]; grind))⟩
  ·refine WO_pure (v := (S ([32]))) rfl rfl ?_
   refine WO_seql (l1 := [32]) (l2 := []) rfl rfl rfl ?_
   refine WO_pure (v := (.bool (decide ([32] = [])))) rfl rfl ?_
   refine WO_nil ?_
   exact ⟨rfl, rfl, rfl, (by show ((.bool (decide ([32] = []))) : Value) = (.bool (decide (s = []))); show Value.bool _ = Value.bool _; rw [Value.bool.injEq, Bool.eq_iff_iff]; first | (simp [c1]; done) | (simp [c1]; omega) | (simp_all []; done) | (simp_all []; omega) | (simp only [Bool.or_eq_true, Bool.and_eq_true, Bool.not_eq_true', decide_eq_true_eq, decide_eq_false_iff_not]; grind))⟩
 ·rintro σ1 _ ⟨rfl, h1_0, h1_1, h1_12⟩
  refine W_anchor (d := 0) h1_0 (W_anchor (d := 1) h1_1 (W_anchor (d := 12) h1_12 (?_)))
  refine W_if (p := s = []) rfl (fun c2 => ?_) (fun c2 => ?_)
  ·refine W_seq ?_
   refine W_reg ?_
   refine WO_pure (v := (S s)) rfl rfl ?_
   refine WO_pure (v := (S s)) rfl rfl ?_
   refine WO_nil ?_
   refine W_ret ?_
   refine body_ret1 rfl (v0 := (S s)) rfl ?_
   exact ⟨by subst_vars; rfl, rfl⟩
  ·refine W_skip ?_
   refine W_seq ?_
   refine W_cut (fun σ' w' => w = w' ∧ σ' 0 = (S s) ∧ σ' 1 = (S ([32])) ∧ σ' 21 = (.bool true)) ?_ ?_
   ·refine W_reg ?_
    refine WO_pure (v := (S ([32]))) rfl rfl ?_
    refine WO_slen (l := [32]) rfl rfl Tryz.underlying9 ?_
    refine WO_pure (v := (.bool true)) rfl rfl ?_
    refine WO_pure (v := (.bool true)) rfl rfl ?_
    refine WO_pure (v := (S ([32]))) rfl rfl ?_
    refine WO_sidx (l := [32]) (j := 0) rfl rfl rfl Tryz.underlying9 (by first | rfl | omega) (by first | omega | (simp; done) | (simp; omega)) ?_
    refine WO_pure (v := (.bool (decide (((byteAt ([32]) 0).toNat : Int) < 128)))) rfl rfl ?_
    refine WO_pure (v := (.bool (decide (((byteAt ([32]) 0).toNat : Int) < 128)))) rfl rfl ?_
    refine WO_nil ?_
    exact ⟨rfl, rfl, rfl, (by show ((.bool (decide (((byteAt ([32]) 0).toNat : Int) < 128))) : Value) = (.bool true); all_goals first | rfl | simp)⟩
   ·rintro σ2 _ ⟨rfl, h2_0, h2_1, h2_21⟩
    refine W_anchor (d := 0) h2_0 (W_anchor (d := 1) h2_1 (W_anchor (d := 21) h2_21 (?_)))
    refine W_true rfl ?_
    refine W_seq ?_
    refine W_reg ?_
    refine WO_pure (v := (S s)) rfl rfl ?_
    refine WO_pure (v := (S ([32]))) rfl rfl ?_
    refine WO_sidx (l := [32]) (j := 0) rfl rfl rfl Tryz.underlying9 (by first | rfl | omega) (by first | omega | (simp; done) | (simp; omega)) ?_
    refine WO_call rfl (by exact en_77) (trimByte_any s _ hl) ?_
    rintro _ _ ⟨rfl, rfl⟩
    refine WO_pure (v := (S ((skipB s)))) rfl rfl ?_
    refine WO_nil ?_
    refine W_ret ?_
    refine body_ret1 rfl (v0 := (S ((skipB s)))) rfl ?_
    exact ⟨rfl, rfl⟩
set_option maxHeartbeats 400000 in
set_option maxRecDepth 100000 in
theorem hasPrefix_any (s : List UInt8) (c : UInt8) (w : World) (hl : s.length ≤ 9223372036854775807) :
  Calls Tryz.prog 81 #[(S s), (S ([c]))] w (Ret fun v w' => v = .bool (headIs s c) ∧ w = w') := by
 refine calls_W Tryz.func81 rfl Tryz.ntmps81 ?_
 refine W_seq ?_
 refine W_reg ?_
 refine WO_pure (v := (.bool false)) rfl rfl ?_
 refine WO_nil ?_
 refine W_cut (fun σ' w' => w = w' ∧ σ' 4 = (.bool (headIs s c))) ?_ ?_
 ·refine W_reg ?_
  refine WO_pure (v := (S s)) rfl rfl ?_
  refine WO_slen (l := s) rfl rfl Tryz.underlying9 ?_
  refine WO_pure (v := (S ([c]))) rfl rfl ?_
  refine WO_slen (l := [c]) rfl rfl Tryz.underlying9 ?_
  refine WO_pure (v := (.bool (decide (1 ≤ (s.length : Int))))) rfl rfl ?_
  refine WO_pure (v := (.bool (decide (1 ≤ (s.length : Int))))) rfl rfl ?_
  refine WO_splitp 10 (p := 1 ≤ (s.length : Int)) (by exact rfl) (fun c1 => ?_) (fun c1 => ?_)
  ·refine WO_pure (v := (S s)) rfl rfl ?_
   refine WO_pure (v := (S ([c]))) rfl rfl ?_
   refine WO_slen (l := [c]) rfl rfl Tryz.underlying9 ?_
   refine WO_sshi (l := s) (j := 1) rfl rfl rfl Tryz.underlying9 (by first | rfl | omega) (by first | omega | (simp; done) | (simp; omega)) ?_
   refine WO_pure (v := (S ([c]))) rfl rfl ?_
   refine WO_seql (l1 := (s.take 1)) (l2 := [c]) rfl rfl rfl ?_
   refine WO_pure (v := (.bool (decide ((s.take 1) = [c])))) rfl rfl ?_
   refine WO_pure (v := (.bool (decide ((s.take 1) = [c])))) rfl rfl ?_
   refine WO_nil ?_
   exact ⟨rfl, (by show ((.bool (decide ((s.take 1) = [c]))) : Value) = (.bool (headIs s c)); first | (show Value.bool _ = Value.bool _; rw [head_nil (by omega)]) | (show Value.bool _ = Value.bool _; simp [headIs, c1]; done) | rfl)⟩
  ·refine WO_pass rfl ?_
   refine WO_pass rfl ?_
   refine WO_pass rfl ?_
   refine WO_pass rfl ?_
   refine WO_pass rfl ?_
   refine WO_pass rfl ?_
   refine WO_pure (v := (.bool false)) rfl rfl ?_
   refine WO_pure (v := (.bool false)) rfl rfl ?_
   refine WO_nil ?_
   exact ⟨rfl, (by show ((.bool false) : Value) = (.bool (headIs s c)); first | (show Value.bool _ = Value.bool _; rw [head_nil (by omega)]) | (show Value.bool _ = Value.bool _; simp [headIs, c1]; done) | rfl)⟩
 ·rintro σ1 _ ⟨rfl, h1_4⟩
  refine W_anchor (d := 4) h1_4 (?_)
  refine W_ret ?_
  refine body_ret1 rfl (v0 := (.bool (headIs s c))) rfl ?_
  exact ⟨rfl, rfl⟩
set_option maxHeartbeats 400000 in
set_option maxRecDepth 100000 in
theorem HasPrefix_any (s : List UInt8) (c : UInt8) (w : World) (hl : s.length ≤ 9223372036854775807) :
  Calls Tryz.prog 47 #[(S s), (S ([c]))] w (Ret fun v w' => v = .bool (headIs s c) ∧ w = w') := by
 refine calls_W Tryz.func47 rfl Tryz.ntmps47 ?_
 refine W_seq ?_
 refine W_reg ?_
 refine WO_pure (v := (.bool false)) rfl rfl ?_
 refine WO_nil ?_
 refine W_seq ?_
 refine W_reg ?_
 refine WO_pure (v := (S s)) rfl rfl ?_
 refine WO_pure (v := (S ([c]))) rfl rfl ?_
 refine WO_call rfl (by exact en_81) (hasPrefix_any s c _ hl) ?_
 rintro _ _ ⟨rfl, rfl⟩
 refine WO_pure (v := (.bool (headIs s c))) rfl rfl ?_
 refine WO_nil ?_
 refine W_ret ?_
 refine body_ret1 rfl (v0 := (.bool (headIs s c))) rfl ?_
 exact ⟨rfl, rfl⟩
end Go.Proofs.YtaegacblpbbndaaGreatDoor
end
section
namespace Go.Proofs.YtaegacblpbbndaaGreatDoor
open Go Go.RowKit
def nlen (r : List UInt8) : Nat := if (headIs r 40 || headIs r 41) = true then 1 else scanW r 0
theorem next_nlen (s : List UInt8) : nextW s = ((skipB s).take (nlen (skipB s)), (skipB s).drop (nlen (skipB s))) := by
 unfold nextW nlen
 cases h : skipB s with
 | nil => rfl
 | cons c r =>
  have e : ∀ k : UInt8, headIs (c :: r) k = true ↔ c = k := by
   intro k; rw [head_at]; simp [byteAt]
  by_cases hc : c = 40 ∨ c = 41
  ·simp only [if_pos hc]
   rw [if_pos (by rw [Bool.or_eq_true, e, e]; exact hc)]; rfl
  ·simp only [if_neg hc]
   rw [if_neg (by rw [Bool.or_eq_true, e, e]; exact hc)]
theorem nlen_one {r : List UInt8} (h : (headIs r 40 || headIs r 41) = true) : nlen r = 1 ∧ 1 ≤ r.length := by
 refine ⟨by unfold nlen; rw [if_pos h], ?_⟩
 rw [Bool.or_eq_true, head_at, head_at] at h
 omega
theorem nlen_scan {r : List UInt8} (h : (headIs r 40 || headIs r 41) = false) : nlen r = scanW r 0 := by unfold nlen; rw [if_neg (by rw [h]; simp)]
set_option maxHeartbeats 1000000 in
set_option maxRecDepth 100000 in
theorem next_any (b : Nat) (txt wd : List UInt8) (w : World) (hb : w.heap[b]? = some (.cells #[S (txt), S (wd)] 56 (0, 0))) (hl : txt.length ≤ 8388608) :
  Calls Tryz.prog 28 #[(.pointer (some ⟨b, 0, none⟩))] w (Ret fun v w' => w'.heap[b]? = some (.cells #[S ((nextW txt).2), S ((nextW txt).1)] 56 (0, 0)) ∧ w.grownBy w' (some b)) := by
 have hsl := skipB_le txt
 refine calls_W Tryz.func28 rfl Tryz.ntmps28 ?_
 refine W_scopeJ 0 (fun σ' w' => ∃ (m : Nat), σ' 0 = (.pointer (some ⟨b, 0, none⟩)) ∧ σ' 2 = (.int .i64 ((m : Int))) ∧ m = nlen (skipB txt) ∧ m ≤ (skipB txt).length ∧ w'.heap[b]? = some (.cells #[S ((skipB txt)), S wd] 56 (0, 0)) ∧ w.grownBy w' (some b)) (rest := _) rfl ?_ ?_
 ·refine W_seq ?_
  refine W_reg ?_
  refine WO_pure (v := (.int .i64 0)) rfl rfl ?_
  refine WO_pure (v := (.int .i64 0)) rfl rfl ?_
  refine WO_nil ?_
  refine W_seq ?_
  refine W_reg ?_
  refine WO_pure (v := (.pointer (some ⟨b, 0, none⟩))) rfl rfl ?_
  refine WO_pure (v := (.pointer (some ⟨b, 0, none⟩))) rfl rfl ?_
  refine WO_pure (v := (.pointer (some ⟨b, 0, none⟩))) rfl rfl ?_
  refine WO_same (v := (.pointer (some ⟨b, 0, none⟩))) rfl (by kernel_rfl) ?_
  refine WO_load (a := ⟨b, 0, none⟩) (v := (S txt)) rfl rfl Tryz.underlying9 rfl (cell_of hb rfl) ?_
  refine WO_call rfl (by exact en_46) (TrimLeft_any txt _ (by omega)) ?_
  rintro _ _ ⟨rfl, rfl⟩
  refine WO_pure (v := (.pointer (some ⟨b, 0, none⟩))) rfl rfl ?_
  refine WO_same (v := (.pointer (some ⟨b, 0, none⟩))) rfl (by kernel_rfl) ?_
  have p2 := hb
  refine WO_store (b := b) (o := 0) (v := (S ((skipB txt)))) rfl rfl rfl (fun _ => by kernel_rfl) rfl p2 (by simp) (fun w2 u2 => ?_)
  have e2 : w2.heap[b]? = some (.cells #[(S ((skipB txt))), (S wd)] 56 (0, 0)) := u2.here
  have z2 := u2.size
  refine WO_nil ?_
  refine W_seq ?_
  refine W_cut (fun σ' w' => w2 = w' ∧ σ' 0 = (.pointer (some ⟨b, 0, none⟩)) ∧ σ' 2 = (.int .i64 0) ∧ σ' 3 = (.int .i64 0) ∧ σ' 23 = (.bool ((headIs (skipB txt) 40 || headIs (skipB txt) 41)))) ?_ ?_
  ·refine W_reg ?_
   refine WO_pure (v := (.pointer (some ⟨b, 0, none⟩))) rfl rfl ?_
   refine WO_pure (v := (.pointer (some ⟨b, 0, none⟩))) rfl rfl ?_
   refine WO_same (v := (.pointer (some ⟨b, 0, none⟩))) rfl (by kernel_rfl) ?_
   refine WO_load (a := ⟨b, 0, none⟩) (v := (S ((skipB txt)))) rfl rfl Tryz.underlying9 rfl (cell_of e2 rfl) ?_
   refine WO_call rfl (by exact en_47) (HasPrefix_any (skipB txt) 40 _ (by omega)) ?_
   rintro _ _ ⟨rfl, rfl⟩
   refine WO_pure (v := (.bool (headIs (skipB txt) 40))) rfl rfl ?_
   refine WO_split 17 (b := headIs (skipB txt) 40) (by exact rfl) (fun c1 => ?_) (fun c1 => ?_)
   ·refine WO_pass rfl ?_
    refine WO_pass rfl ?_
    refine WO_pass rfl ?_
    refine WO_pass rfl ?_
    refine WO_pass rfl ?_
    refine WO_pure (v := (.bool true)) rfl rfl ?_
    refine WO_nil ?_
    exact ⟨rfl, rfl, rfl, rfl, (by show ((.bool true) : Value) = (.bool ((headIs (skipB txt) 40 || headIs (skipB txt) 41))); show Value.bool _ = Value.bool _; rw [Value.bool.injEq, Bool.eq_iff_iff]; first | (simp [c1]; done) | (simp [c1]; omega) | (simp_all []; done) | (simp_all []; omega) | (simp only [Bool.or_eq_true, Bool.and_eq_true, Bool.not_eq_true', decide_eq_true_eq, decide_eq_false_iff_not]; grind))⟩
   ·refine WO_pure (v := (.pointer (some ⟨b, 0, none⟩))) rfl rfl ?_
    refine WO_pure (v := (.pointer (some ⟨b, 0, none⟩))) rfl rfl ?_
    refine WO_same (v := (.pointer (some ⟨b, 0, none⟩))) rfl (by kernel_rfl) ?_
    refine WO_load (a := ⟨b, 0, none⟩) (v := (S ((skipB txt)))) rfl rfl Tryz.underlying9 rfl (cell_of e2 rfl) ?_
    refine WO_call rfl (by exact en_47) (HasPrefix_any (skipB txt) 41 _ (by omega)) ?_
    rintro _ _ ⟨rfl, rfl⟩
    refine WO_pure (v := (.bool (headIs (skipB txt) 41))) rfl rfl ?_
    refine WO_nil ?_
    exact ⟨rfl, rfl, rfl, rfl, (by show ((.bool (headIs (skipB txt) 41)) : Value) = (.bool ((headIs (skipB txt) 40 || headIs (skipB txt) 41))); show Value.bool _ = Value.bool _; rw [Value.bool.injEq, Bool.eq_iff_iff]; first | (simp [c1]; done) | (simp [c1]; omega) | (simp_all []; done) | (simp_all []; omega) | (simp only [Bool.or_eq_true, Bool.and_eq_true, Bool.not_eq_true', decide_eq_true_eq, decide_eq_false_iff_not]; grind))⟩
  ·rintro σ1 _ ⟨rfl, h1_0, h1_2, h1_3, h1_23⟩
   refine W_anchor (d := 0) h1_0 (W_anchor (d := 2) h1_2 (W_anchor (d := 3) h1_3 (W_anchor (d := 23) h1_23 (?_))))
   refine W_cond (t := (headIs (skipB txt) 40 || headIs (skipB txt) 41)) rfl (fun c2 => ?_) (fun c2 => ?_)
   ·refine W_seq ?_
    refine W_reg ?_
    refine WO_pure (v := (.int .i64 1)) rfl rfl ?_
    refine WO_nil ?_
    refine W_goto ?_
    refine ⟨rfl, 1, rfl, rfl, ?_, ?_, ?_, ?_⟩
    ·exact (nlen_one c2).1.symm
    ·exact (nlen_one c2).2
    ·exact e2
    ·exact (grown_upd (grown_refl w _) u2 (by first | (left; omega) | (right; rfl)))
   ·refine W_skip ?_
    refine W_seq ?_
    refine W_block ?_
    refine W_loop (fun g σ' w' => ∃ (j o : Nat), w2 = w' ∧ σ' 0 = (.pointer (some ⟨b, 0, none⟩)) ∧ σ' 2 = (.int .i64 ((j : Int))) ∧ σ' 3 = (.int .i64 ((o : Int))) ∧ j ≤ (skipB txt).length ∧ o ≤ j ∧ scanW (skipB txt) 0 = j + scanW ((skipB txt).drop j) o ∧ g = (skipB txt).length - j) ?_ ?_
    ·refine ⟨_, 0, 0, rfl, rfl, rfl, rfl, ?_, ?_, ?_, rfl⟩
     ·omega
     ·omega
     ·simp
    ·rintro g σl1 _ ⟨j, o, rfl, l1_0, l1_2, l1_3, f1_1, f1_2, f1_3, rfl⟩
     refine W_anchor (d := 0) l1_0 (W_anchor (d := 2) l1_2 (W_anchor (d := 3) l1_3 (?_)))
     refine W_seq ?_
     refine W_cut (fun σ' w' => w2 = w' ∧ σ' 0 = (.pointer (some ⟨b, 0, none⟩)) ∧ σ' 2 = (.int .i64 ((j : Int))) ∧ σ' 3 = (.int .i64 ((o : Int))) ∧ σ' 39 = (.bool (decide (j < (skipB txt).length ∧ ¬ ((byteAt (skipB txt) j).toNat : Int) = 32)))) ?_ ?_
     ·refine W_reg ?_
      refine WO_pure (v := (.int .i64 ((j : Int)))) rfl rfl ?_
      refine WO_pure (v := (.pointer (some ⟨b, 0, none⟩))) rfl rfl ?_
      refine WO_pure (v := (.pointer (some ⟨b, 0, none⟩))) rfl rfl ?_
      refine WO_same (v := (.pointer (some ⟨b, 0, none⟩))) rfl (by kernel_rfl) ?_
      refine WO_load (a := ⟨b, 0, none⟩) (v := (S ((skipB txt)))) rfl rfl Tryz.underlying9 rfl (cell_of e2 rfl) ?_
      refine WO_slen (l := (skipB txt)) rfl rfl Tryz.underlying9 ?_
      refine WO_pure (v := (.bool (decide ((j : Int) < ((skipB txt).length : Int))))) rfl rfl ?_
      refine WO_pure (v := (.bool (decide ((j : Int) < ((skipB txt).length : Int))))) rfl rfl ?_
      refine WO_splitp 31 (p := (j : Int) < ((skipB txt).length : Int)) (by exact rfl) (fun c3 => ?_) (fun c3 => ?_)
      ·refine WO_pure (v := (.pointer (some ⟨b, 0, none⟩))) rfl rfl ?_
       refine WO_pure (v := (.pointer (some ⟨b, 0, none⟩))) rfl rfl ?_
       refine WO_same (v := (.pointer (some ⟨b, 0, none⟩))) rfl (by kernel_rfl) ?_
       refine WO_load (a := ⟨b, 0, none⟩) (v := (S ((skipB txt)))) rfl rfl Tryz.underlying9 rfl (cell_of e2 rfl) ?_
       refine WO_pure (v := (.int .i64 ((j : Int)))) rfl rfl ?_
       refine WO_sidx (l := (skipB txt)) (j := j) rfl rfl rfl Tryz.underlying9 (by first | rfl | omega) (by first | omega | (simp; done) | (simp; omega)) ?_
       refine WO_pure (v := (.bool (!decide (((byteAt (skipB txt) j).toNat : Int) = 32)))) rfl rfl ?_
       refine WO_pure (v := (.bool (!decide (((byteAt (skipB txt) j).toNat : Int) = 32)))) rfl rfl ?_
       refine WO_nil ?_
       exact ⟨rfl, rfl, rfl, rfl, (by show ((.bool (!decide (((byteAt (skipB txt) j).toNat : Int) = 32))) : Value) = (.bool (decide (j < (skipB txt).length ∧ ¬ ((byteAt (skipB txt) j).toNat : Int) = 32))); show Value.bool _ = Value.bool _; rw [Value.bool.injEq, Bool.eq_iff_iff]; first | (simp [c3]; done) | (simp [c3]; omega) | (simp_all []; done) | (simp_all []; omega) | (simp only [Bool.or_eq_true, Bool.and_eq_true, Bool.not_eq_true', decide_eq_true_eq, decide_eq_false_iff_not]; grind))⟩
      ·refine WO_pass rfl ?_
       refine WO_pass rfl ?_
       refine WO_pass rfl ?_
       refine WO_pass rfl ?_
       refine WO_pass rfl ?_
       refine WO_pass rfl ?_
       refine WO_pass rfl ?_
       refine WO_pure (v := (.bool false)) rfl rfl ?_
       refine WO_nil ?_
       exact ⟨rfl, rfl, rfl, rfl, (by show ((.bool false) : Value) = (.bool (decide (j < (skipB txt).length ∧ ¬ ((byteAt (skipB txt) j).toNat : Int) = 32))); show Value.bool _ = Value.bool _; rw [Value.bool.injEq, Bool.eq_iff_iff]; first | (simp [c3]; done) | (simp [c3]; omega) | (simp_all []; done) | (simp_all []; omega) | (simp only [Bool.or_eq_true, Bool.and_eq_true, Bool.not_eq_true', decide_eq_true_eq, decide_eq_false_iff_not]; grind))⟩
     ·rintro σ2 _ ⟨rfl, h2_0, h2_2, h2_3, h2_39⟩
      refine W_anchor (d := 0) h2_0 (W_anchor (d := 2) h2_2 (W_anchor (d := 3) h2_3 (W_anchor (d := 39) h2_39 (?_))))
      refine W_if (p := j < (skipB txt).length ∧ ¬ ((byteAt (skipB txt) j).toNat : Int) = 32) rfl (fun c4 => ?_) (fun c4 => ?_)
      ·refine W_skip ?_
       refine W_seq ?_
       refine W_block ?_
       refine W_seq ?_
       refine W_reg ?_
       refine WO_pure (v := (.pointer (some ⟨b, 0, none⟩))) rfl rfl ?_
       refine WO_pure (v := (.pointer (some ⟨b, 0, none⟩))) rfl rfl ?_
       refine WO_same (v := (.pointer (some ⟨b, 0, none⟩))) rfl (by kernel_rfl) ?_
       refine WO_load (a := ⟨b, 0, none⟩) (v := (S ((skipB txt)))) rfl rfl Tryz.underlying9 rfl (cell_of e2 rfl) ?_
       refine WO_pure (v := (.int .i64 ((j : Int)))) rfl rfl ?_
       refine WO_sidx (l := (skipB txt)) (j := j) rfl rfl rfl Tryz.underlying9 (by first | rfl | omega) (by first | omega | (simp; done) | (simp; omega)) ?_
       refine WO_nil ?_
       refine W_block ?_
       refine W_seq ?_
       refine W_reg ?_
       refine WO_pure (v := (.bool (decide (((byteAt (skipB txt) j).toNat : Int) = 40)))) rfl rfl ?_
       refine WO_pure (v := (.bool (decide (((byteAt (skipB txt) j).toNat : Int) = 40)))) rfl rfl ?_
       refine WO_nil ?_
       refine W_if (p := ((byteAt (skipB txt) j).toNat : Int) = 40) rfl (fun c5 => ?_) (fun c5 => ?_)
       ·refine W_reg ?_
        refine WO_pure (v := (.int .i64 ((o : Int)))) rfl rfl ?_
        refine WO_add (b := 1) (v := (o : Int) + 1) rfl rfl rfl (by simp only [kLo, kHi]; omega) ?_
        refine WO_pure (v := (.int .i64 ((o : Int) + 1))) rfl rfl ?_
        refine WO_nil ?_
        refine W_reg ?_
        refine WO_pure (v := (.int .i64 ((j : Int)))) rfl rfl ?_
        refine WO_add (b := 1) (v := (j : Int) + 1) rfl rfl rfl (by simp only [kLo, kHi]; omega) ?_
        refine WO_pure (v := (.int .i64 ((j : Int) + 1))) rfl rfl ?_
        refine WO_nil ?_
        refine ⟨_, ?_, (j + 1), (o + 1), rfl, rfl, rfl, rfl, ?_, ?_, ?_, rfl⟩
        ·omega
        ·omega
        ·omega
        ·rw [f1_3, scan_open c4 c5]; omega
       ·refine W_seq ?_
        refine W_reg ?_
        refine WO_pure (v := (.bool (decide (((byteAt (skipB txt) j).toNat : Int) = 41)))) rfl rfl ?_
        refine WO_pure (v := (.bool (decide (((byteAt (skipB txt) j).toNat : Int) = 41)))) rfl rfl ?_
        refine WO_nil ?_
        refine W_if (p := ((byteAt (skipB txt) j).toNat : Int) = 41) rfl (fun c6 => ?_) (fun c6 => ?_)
        ·refine W_seq ?_
         refine W_seq ?_
         refine W_reg ?_
         refine WO_pure (v := (.int .i64 ((o : Int)))) rfl rfl ?_
         refine WO_pure (v := (.bool (decide ((o : Int) = 0)))) rfl rfl ?_
         refine WO_nil ?_
         refine W_if (p := (o : Int) = 0) rfl (fun c7 => ?_) (fun c7 => ?_)
         ·refine W_goto ?_
          refine ⟨rfl, j, rfl, rfl, ?_, ?_, ?_, ?_⟩
          ·rw [nlen_scan (by simpa using c2), f1_3, scan_stop c4 ⟨c6, by omega⟩]; omega
          ·omega
          ·exact e2
          ·exact (grown_upd (grown_refl w _) u2 (by first | (left; omega) | (right; rfl)))
         ·refine W_skip ?_
          refine W_reg ?_
          refine WO_pure (v := (.int .i64 ((o : Int)))) rfl rfl ?_
          refine WO_sub (v := ((o - 1 : Nat) : Int)) (hv := by omega) rfl rfl rfl (by simp only [kLo, kHi]; omega) ?_
          refine WO_pure (v := (.int .i64 (((o - 1 : Nat) : Int)))) rfl rfl ?_
          refine WO_nil ?_
          refine W_reg ?_
          refine WO_pure (v := (.int .i64 ((j : Int)))) rfl rfl ?_
          refine WO_add (b := 1) (v := (j : Int) + 1) rfl rfl rfl (by simp only [kLo, kHi]; omega) ?_
          refine WO_pure (v := (.int .i64 ((j : Int) + 1))) rfl rfl ?_
          refine WO_nil ?_
          refine ⟨_, ?_, (j + 1), (o - 1), rfl, rfl, rfl, rfl, ?_, ?_, ?_, rfl⟩
          ·omega
          ·omega
          ·omega
          ·rw [f1_3, scan_close c4 c6 (by omega)]; omega
        ·refine W_skip ?_
         refine W_reg ?_
         refine WO_pure (v := (.int .i64 ((j : Int)))) rfl rfl ?_
         refine WO_add (b := 1) (v := (j : Int) + 1) rfl rfl rfl (by simp only [kLo, kHi]; omega) ?_
         refine WO_pure (v := (.int .i64 ((j : Int) + 1))) rfl rfl ?_
         refine WO_nil ?_
         refine ⟨_, ?_, (j + 1), o, rfl, rfl, rfl, rfl, ?_, ?_, ?_, rfl⟩
         ·omega
         ·omega
         ·omega
         ·rw [f1_3, scan_else c4 c5 c6]; omega
      ·refine W_exit ?_
       refine W_seq ?_
       refine W_label ?_
       refine W_order (by kernel_rfl) (fun w3 d3 => ?_)
       have z3 := d3.ext.size
       refine WX_take 0 rfl (by kernel_rfl) (by kernel_rfl) (by kernel_rfl) rfl (fun _ => pure_run (v := (.pointer (some ⟨b, 0, none⟩))) rfl) ?_
       refine WX_take 1 rfl (by kernel_rfl) (by kernel_rfl) (by kernel_rfl) rfl (fun _ => pure_run (v := (.pointer (some ⟨b, 0, none⟩))) rfl) ?_
       refine WX_take 2 rfl (by kernel_rfl) (by kernel_rfl) (by kernel_rfl) rfl (fun _ => pure_run (v := (.pointer (some ⟨b, 0, none⟩))) rfl) ?_
       refine WX_take 3 rfl (by kernel_rfl) (by kernel_rfl) (by kernel_rfl) rfl (fun _ => pure_run (v := (.pointer (some ⟨b, 0, none⟩))) rfl) ?_
       refine WX_take 4 rfl (by kernel_rfl) (by kernel_rfl) (by kernel_rfl) rfl (v := (.pointer (some ⟨b, 0, none⟩))) (fun _ => by kernel_rfl) ?_
       refine WX_take 6 rfl (by kernel_rfl) (by kernel_rfl) (by kernel_rfl) rfl (fun _ => pure_run (v := (.int .i64 ((j : Int)))) rfl) ?_
       refine WX_take 8 rfl (by kernel_rfl) (by kernel_rfl) (by kernel_rfl) rfl (fun _ => pure_run (v := (.pointer (some ⟨b, 0, none⟩))) rfl) ?_
       refine WX_take 9 rfl (by kernel_rfl) (by kernel_rfl) (by kernel_rfl) rfl (fun _ => pure_run (v := (.pointer (some ⟨b, 0, none⟩))) rfl) ?_
       refine WX_take 10 rfl (by kernel_rfl) (by kernel_rfl) (by kernel_rfl) rfl (v := (.pointer (some ⟨b, 0, none⟩))) (fun _ => by kernel_rfl) ?_
       refine WX_take 12 rfl (by kernel_rfl) (by kernel_rfl) (by kernel_rfl) rfl (fun _ => pure_run (v := (.int .i64 ((j : Int)))) rfl) ?_
       refine WX_two 5 11 (by kernel_rfl) rfl rfl ?_ ?_
       ·refine WO_load (a := ⟨b, 0, none⟩) (v := (S ((skipB txt)))) rfl rfl Tryz.underlying9 rfl (cell_of (drew_keep d3 e2) rfl) ?_
        refine WO_nil (⟨rfl, ?_⟩)
        refine WX_take 7 rfl (by kernel_rfl) (by kernel_rfl) (by kernel_rfl) rfl (fun _ => R_sshi (l := (skipB txt)) (j := j) rfl rfl Tryz.underlying9 (by first | rfl | omega) (by first | omega | (simp; done) | (simp; omega))) ?_
        refine WX_only 11 (by kernel_rfl) rfl ?_
        refine WO_load (a := ⟨b, 0, none⟩) (v := (S ((skipB txt)))) rfl rfl Tryz.underlying9 rfl (cell_of (drew_keep d3 e2) rfl) ?_
        refine WO_nil (⟨rfl, ?_⟩)
        refine WX_take 13 rfl (by kernel_rfl) (by kernel_rfl) (by kernel_rfl) rfl (fun _ => R_sslo (l := (skipB txt)) (i := j) rfl rfl Tryz.underlying9 (by first | rfl | omega) (by first | omega | (simp; done) | (simp; omega))) ?_
        refine WX_take 14 rfl (by kernel_rfl) (by kernel_rfl) (by kernel_rfl) rfl (fun _ => pure_run (v := (.pointer (some ⟨b, 0, none⟩))) rfl) ?_
        refine WX_take 15 rfl (by kernel_rfl) (by kernel_rfl) (by kernel_rfl) rfl (v := (.pointer (some ⟨b, 1, none⟩))) (fun _ => by kernel_rfl) ?_
        refine WX_only 16 (by kernel_rfl) rfl ?_
        have p4 := (drew_keep d3 e2)
        refine WO_store (b := b) (o := 1) (v := (S (((skipB txt).take j)))) rfl rfl rfl (fun _ => by kernel_rfl) rfl p4 (by simp) (fun w4 u4 => ?_)
        have e4 : w4.heap[b]? = some (.cells #[(S ((skipB txt))), (S (((skipB txt).take j)))] 56 (0, 0)) := u4.here
        have z4 := u4.size
        refine WO_nil (⟨rfl, ?_⟩)
        refine WX_take 17 rfl (by kernel_rfl) (by kernel_rfl) (by kernel_rfl) rfl (fun _ => pure_run (v := (.pointer (some ⟨b, 0, none⟩))) rfl) ?_
        refine WX_take 18 rfl (by kernel_rfl) (by kernel_rfl) (by kernel_rfl) rfl (v := (.pointer (some ⟨b, 0, none⟩))) (fun _ => by kernel_rfl) ?_
        refine WX_only 19 (by kernel_rfl) rfl ?_
        have p5 := e4
        refine WO_store (b := b) (o := 0) (v := (S (((skipB txt).drop j)))) rfl rfl rfl (fun _ => by kernel_rfl) rfl p5 (by simp) (fun w5 u5 => ?_)
        have e5 : w5.heap[b]? = some (.cells #[(S (((skipB txt).drop j))), (S (((skipB txt).take j)))] 56 (0, 0)) := u5.here
        have z5 := u5.size
        refine WO_nil (⟨rfl, ?_⟩)
        refine WX_done (by kernel_rfl) ?_
        refine body_ret0 (fn := Tryz.f28) (by first | exact .inl rfl | exact .inr rfl) rfl ?_
        have hz : nlen (skipB txt) = j := by rw [nlen_scan (by simpa using c2), f1_3, scan_end c4]; rfl
        exact ⟨by rw [next_nlen, hz]; exact e5, (grown_upd (grown_upd (grown_drew (grown_upd (grown_refl w _) u2 (by first | (left; omega) | (right; rfl))) d3) u4 (by first | (left; omega) | (right; rfl))) u5 (by first | (left; omega) | (right; rfl)))⟩
       ·refine WO_load (a := ⟨b, 0, none⟩) (v := (S ((skipB txt)))) rfl rfl Tryz.underlying9 rfl (cell_of (drew_keep d3 e2) rfl) ?_
        refine WO_nil (⟨rfl, ?_⟩)
        refine WX_take 13 rfl (by kernel_rfl) (by kernel_rfl) (by kernel_rfl) rfl (fun _ => R_sslo (l := (skipB txt)) (i := j) rfl rfl Tryz.underlying9 (by first | rfl | omega) (by first | omega | (simp; done) | (simp; omega))) ?_
        refine WX_only 5 (by kernel_rfl) rfl ?_
        refine WO_load (a := ⟨b, 0, none⟩) (v := (S ((skipB txt)))) rfl rfl Tryz.underlying9 rfl (cell_of (drew_keep d3 e2) rfl) ?_
        refine WO_nil (⟨rfl, ?_⟩)
        refine WX_take 7 rfl (by kernel_rfl) (by kernel_rfl) (by kernel_rfl) rfl (fun _ => R_sshi (l := (skipB txt)) (j := j) rfl rfl Tryz.underlying9 (by first | rfl | omega) (by first | omega | (simp; done) | (simp; omega))) ?_
        refine WX_take 14 rfl (by kernel_rfl) (by kernel_rfl) (by kernel_rfl) rfl (fun _ => pure_run (v := (.pointer (some ⟨b, 0, none⟩))) rfl) ?_
        refine WX_take 15 rfl (by kernel_rfl) (by kernel_rfl) (by kernel_rfl) rfl (v := (.pointer (some ⟨b, 1, none⟩))) (fun _ => by kernel_rfl) ?_
        refine WX_only 16 (by kernel_rfl) rfl ?_
        have p6 := (drew_keep d3 e2)
        refine WO_store (b := b) (o := 1) (v := (S (((skipB txt).take j)))) rfl rfl rfl (fun _ => by kernel_rfl) rfl p6 (by simp) (fun w6 u6 => ?_)
        have e6 : w6.heap[b]? = some (.cells #[(S ((skipB txt))), (S (((skipB txt).take j)))] 56 (0, 0)) := u6.here
        have z6 := u6.size
        refine WO_nil (⟨rfl, ?_⟩)
        refine WX_take 17 rfl (by kernel_rfl) (by kernel_rfl) (by kernel_rfl) rfl (fun _ => pure_run (v := (.pointer (some ⟨b, 0, none⟩))) rfl) ?_
        refine WX_take 18 rfl (by kernel_rfl) (by kernel_rfl) (by kernel_rfl) rfl (v := (.pointer (some ⟨b, 0, none⟩))) (fun _ => by kernel_rfl) ?_
        refine WX_only 19 (by kernel_rfl) rfl ?_
        have p7 := e6
        refine WO_store (b := b) (o := 0) (v := (S (((skipB txt).drop j)))) rfl rfl rfl (fun _ => by kernel_rfl) rfl p7 (by simp) (fun w7 u7 => ?_)
        have e7 : w7.heap[b]? = some (.cells #[(S (((skipB txt).drop j))), (S (((skipB txt).take j)))] 56 (0, 0)) := u7.here
        have z7 := u7.size
        refine WO_nil (⟨rfl, ?_⟩)
        refine WX_done (by kernel_rfl) ?_
        refine body_ret0 (fn := Tryz.f28) (by first | exact .inl rfl | exact .inr rfl) rfl ?_
        have hz : nlen (skipB txt) = j := by rw [nlen_scan (by simpa using c2), f1_3, scan_end c4]; rfl
        exact ⟨by rw [next_nlen, hz]; exact e7, (grown_upd (grown_upd (grown_drew (grown_upd (grown_refl w _) u2 (by first | (left; omega) | (right; rfl))) d3) u6 (by first | (left; omega) | (right; rfl))) u7 (by first | (left; omega) | (right; rfl)))⟩
 ·rintro σj1 wj1 ⟨m, j1_0, j1_2, h1_1, h1_2, h1_3, h1_4⟩
  refine W_anchor (d := 0) j1_0 (W_anchor (d := 2) j1_2 (?_))
  refine W_seq ?_
  refine W_skip ?_
  refine W_order (by kernel_rfl) (fun w8 d8 => ?_)
  have z8 := d8.ext.size
  refine WX_take 0 rfl (by kernel_rfl) (by kernel_rfl) (by kernel_rfl) rfl (fun _ => pure_run (v := (.pointer (some ⟨b, 0, none⟩))) rfl) ?_
  refine WX_take 1 rfl (by kernel_rfl) (by kernel_rfl) (by kernel_rfl) rfl (fun _ => pure_run (v := (.pointer (some ⟨b, 0, none⟩))) rfl) ?_
  refine WX_take 2 rfl (by kernel_rfl) (by kernel_rfl) (by kernel_rfl) rfl (fun _ => pure_run (v := (.pointer (some ⟨b, 0, none⟩))) rfl) ?_
  refine WX_take 3 rfl (by kernel_rfl) (by kernel_rfl) (by kernel_rfl) rfl (fun _ => pure_run (v := (.pointer (some ⟨b, 0, none⟩))) rfl) ?_
  refine WX_take 4 rfl (by kernel_rfl) (by kernel_rfl) (by kernel_rfl) rfl (v := (.pointer (some ⟨b, 0, none⟩))) (fun _ => by kernel_rfl) ?_
  refine WX_take 6 rfl (by kernel_rfl) (by kernel_rfl) (by kernel_rfl) rfl (fun _ => pure_run (v := (.int .i64 ((m : Int)))) rfl) ?_
  refine WX_take 8 rfl (by kernel_rfl) (by kernel_rfl) (by kernel_rfl) rfl (fun _ => pure_run (v := (.pointer (some ⟨b, 0, none⟩))) rfl) ?_
  refine WX_take 9 rfl (by kernel_rfl) (by kernel_rfl) (by kernel_rfl) rfl (fun _ => pure_run (v := (.pointer (some ⟨b, 0, none⟩))) rfl) ?_
  refine WX_take 10 rfl (by kernel_rfl) (by kernel_rfl) (by kernel_rfl) rfl (v := (.pointer (some ⟨b, 0, none⟩))) (fun _ => by kernel_rfl) ?_
  refine WX_take 12 rfl (by kernel_rfl) (by kernel_rfl) (by kernel_rfl) rfl (fun _ => pure_run (v := (.int .i64 ((m : Int)))) rfl) ?_
  refine WX_two 5 11 (by kernel_rfl) rfl rfl ?_ ?_
  ·refine WO_load (a := ⟨b, 0, none⟩) (v := (S ((skipB txt)))) rfl rfl Tryz.underlying9 rfl (cell_of (drew_keep d8 h1_3) rfl) ?_
   refine WO_nil (⟨rfl, ?_⟩)
   refine WX_take 7 rfl (by kernel_rfl) (by kernel_rfl) (by kernel_rfl) rfl (fun _ => R_sshi (l := (skipB txt)) (j := m) rfl rfl Tryz.underlying9 (by first | rfl | omega) (by first | omega | (simp; done) | (simp; omega))) ?_
   refine WX_only 11 (by kernel_rfl) rfl ?_
   refine WO_load (a := ⟨b, 0, none⟩) (v := (S ((skipB txt)))) rfl rfl Tryz.underlying9 rfl (cell_of (drew_keep d8 h1_3) rfl) ?_
   refine WO_nil (⟨rfl, ?_⟩)
   refine WX_take 13 rfl (by kernel_rfl) (by kernel_rfl) (by kernel_rfl) rfl (fun _ => R_sslo (l := (skipB txt)) (i := m) rfl rfl Tryz.underlying9 (by first | rfl | omega) (by first | omega | (simp; done) | (simp; omega))) ?_
   refine WX_take 14 rfl (by kernel_rfl) (by kernel_rfl) (by kernel_rfl) rfl (fun _ => pure_run (v := (.pointer (some ⟨b, 0, none⟩))) rfl) ?_
   refine WX_take 15 rfl (by kernel_rfl) (by kernel_rfl) (by kernel_rfl) rfl (v := (.pointer (some ⟨b, 1, none⟩))) (fun _ => by kernel_rfl) ?_
   refine WX_only 16 (by kernel_rfl) rfl ?_
   have p9 := (drew_keep d8 h1_3)
   refine WO_store (b := b) (o := 1) (v := (S (((skipB txt).take m)))) rfl rfl rfl (fun _ => by kernel_rfl) rfl p9 (by simp) (fun w9 u9 => ?_)
   have e9 : w9.heap[b]? = some (.cells #[(S ((skipB txt))), (S (((skipB txt).take m)))] 56 (0, 0)) := u9.here
   have z9 := u9.size
   refine WO_nil (⟨rfl, ?_⟩)
   refine WX_take 17 rfl (by kernel_rfl) (by kernel_rfl) (by kernel_rfl) rfl (fun _ => pure_run (v := (.pointer (some ⟨b, 0, none⟩))) rfl) ?_
   refine WX_take 18 rfl (by kernel_rfl) (by kernel_rfl) (by kernel_rfl) rfl (v := (.pointer (some ⟨b, 0, none⟩))) (fun _ => by kernel_rfl) ?_
   refine WX_only 19 (by kernel_rfl) rfl ?_
   have p10 := e9
   refine WO_store (b := b) (o := 0) (v := (S (((skipB txt).drop m)))) rfl rfl rfl (fun _ => by kernel_rfl) rfl p10 (by simp) (fun w10 u10 => ?_)
   have e10 : w10.heap[b]? = some (.cells #[(S (((skipB txt).drop m))), (S (((skipB txt).take m)))] 56 (0, 0)) := u10.here
   have z10 := u10.size
   refine WO_nil (⟨rfl, ?_⟩)
   refine WX_done (by kernel_rfl) ?_
   refine body_ret0 (fn := Tryz.f28) (by first | exact .inl rfl | exact .inr rfl) rfl ?_
   have hz : nlen (skipB txt) = m := by omega
   exact ⟨by rw [next_nlen, hz]; exact e10, (grown_upd (grown_upd (grown_drew (World.grownBy.trans (grown_refl w _) h1_4) d8) u9 (by first | (left; omega) | (right; rfl))) u10 (by first | (left; omega) | (right; rfl)))⟩
  ·refine WO_load (a := ⟨b, 0, none⟩) (v := (S ((skipB txt)))) rfl rfl Tryz.underlying9 rfl (cell_of (drew_keep d8 h1_3) rfl) ?_
   refine WO_nil (⟨rfl, ?_⟩)
   refine WX_take 13 rfl (by kernel_rfl) (by kernel_rfl) (by kernel_rfl) rfl (fun _ => R_sslo (l := (skipB txt)) (i := m) rfl rfl Tryz.underlying9 (by first | rfl | omega) (by first | omega | (simp; done) | (simp; omega))) ?_
   refine WX_only 5 (by kernel_rfl) rfl ?_
   refine WO_load (a := ⟨b, 0, none⟩) (v := (S ((skipB txt)))) rfl rfl Tryz.underlying9 rfl (cell_of (drew_keep d8 h1_3) rfl) ?_
   refine WO_nil (⟨rfl, ?_⟩)
   refine WX_take 7 rfl (by kernel_rfl) (by kernel_rfl) (by kernel_rfl) rfl (fun _ => R_sshi (l := (skipB txt)) (j := m) rfl rfl Tryz.underlying9 (by first | rfl | omega) (by first | omega | (simp; done) | (simp; omega))) ?_
   refine WX_take 14 rfl (by kernel_rfl) (by kernel_rfl) (by kernel_rfl) rfl (fun _ => pure_run (v := (.pointer (some ⟨b, 0, none⟩))) rfl) ?_
   refine WX_take 15 rfl (by kernel_rfl) (by kernel_rfl) (by kernel_rfl) rfl (v := (.pointer (some ⟨b, 1, none⟩))) (fun _ => by kernel_rfl) ?_
   refine WX_only 16 (by kernel_rfl) rfl ?_
   have p11 := (drew_keep d8 h1_3)
   refine WO_store (b := b) (o := 1) (v := (S (((skipB txt).take m)))) rfl rfl rfl (fun _ => by kernel_rfl) rfl p11 (by simp) (fun w11 u11 => ?_)
   have e11 : w11.heap[b]? = some (.cells #[(S ((skipB txt))), (S (((skipB txt).take m)))] 56 (0, 0)) := u11.here
   have z11 := u11.size
   refine WO_nil (⟨rfl, ?_⟩)
   refine WX_take 17 rfl (by kernel_rfl) (by kernel_rfl) (by kernel_rfl) rfl (fun _ => pure_run (v := (.pointer (some ⟨b, 0, none⟩))) rfl) ?_
   refine WX_take 18 rfl (by kernel_rfl) (by kernel_rfl) (by kernel_rfl) rfl (v := (.pointer (some ⟨b, 0, none⟩))) (fun _ => by kernel_rfl) ?_
   refine WX_only 19 (by kernel_rfl) rfl ?_
   have p12 := e11
   refine WO_store (b := b) (o := 0) (v := (S (((skipB txt).drop m)))) rfl rfl rfl (fun _ => by kernel_rfl) rfl p12 (by simp) (fun w12 u12 => ?_)
   have e12 : w12.heap[b]? = some (.cells #[(S (((skipB txt).drop m))), (S (((skipB txt).take m)))] 56 (0, 0)) := u12.here
   have z12 := u12.size
   refine WO_nil (⟨rfl, ?_⟩)
   refine WX_done (by kernel_rfl) ?_
   refine body_ret0 (fn := Tryz.f28) (by first | exact .inl rfl | exact .inr rfl) rfl ?_
   have hz : nlen (skipB txt) = m := by omega
   exact ⟨by rw [next_nlen, hz]; exact e12, (grown_upd (grown_upd (grown_drew (World.grownBy.trans (grown_refl w _) h1_4) d8) u11 (by first | (left; omega) | (right; rfl))) u12 (by first | (left; omega) | (right; rfl)))⟩
set_option maxHeartbeats 400000 in
set_option maxRecDepth 100000 in
theorem take_any (b : Nat) (txt wd : List UInt8) (w : World) (hb : w.heap[b]? = some (.cells #[S (txt), S (wd)] 56 (0, 0))) (hl : txt.length ≤ 8388608) :
  Calls Tryz.prog 48 #[(.pointer (some ⟨b, 0, none⟩))] w (Ret fun v w' => v = S wd ∧ w'.heap[b]? = some (.cells #[S ((nextW txt).2), S ((nextW txt).1)] 56 (0, 0)) ∧ w.grownBy w' (some b)) := by
 refine calls_W Tryz.func48 rfl Tryz.ntmps48 ?_
 refine W_seq ?_
 refine W_reg ?_
 refine WO_pure (v := (S [])) rfl rfl ?_
 refine WO_nil ?_
 refine W_seq ?_
 refine W_reg ?_
 refine WO_pure (v := (.pointer (some ⟨b, 0, none⟩))) rfl rfl ?_
 refine WO_pure (v := (.pointer (some ⟨b, 0, none⟩))) rfl rfl ?_
 refine WO_same (v := (.pointer (some ⟨b, 1, none⟩))) rfl (by kernel_rfl) ?_
 refine WO_load (a := ⟨b, 1, none⟩) (v := (S wd)) rfl rfl Tryz.underlying9 rfl (cell_of hb rfl) ?_
 refine WO_pure (v := (S wd)) rfl rfl ?_
 refine WO_nil ?_
 refine W_seq ?_
 refine W_reg ?_
 refine WO_pure (v := (.pointer (some ⟨b, 0, none⟩))) rfl rfl ?_
 refine WO_call rfl (by exact en_28) (next_any b txt wd _ hb hl) ?_
 rintro _ wn ⟨hcn, gn⟩
 refine WO_nil ?_
 refine W_seq ?_
 refine W_reg ?_
 refine WO_pure (v := (S wd)) rfl rfl ?_
 refine WO_pure (v := (S wd)) rfl rfl ?_
 refine WO_nil ?_
 refine W_ret ?_
 refine body_ret1 rfl (v0 := (S wd)) rfl ?_
 exact ⟨rfl, hcn, gn⟩
end Go.Proofs.YtaegacblpbbndaaGreatDoor
end
section
namespace Go.Proofs.YtaegacblpbbndaaGreatDoor
open Go Go.RowKit
def atW (ws : List (List UInt8)) (n : Nat) : List UInt8 := (ws[n]?).getD []
theorem atW_lt {ws : List (List UInt8)} {n : Nat} (h : n < ws.length) : atW ws n = nth ws n := by
  unfold atW; rw [nth_eq h]; rfl
theorem atW_ge {ws : List (List UInt8)} {n : Nat} (h : ws.length ≤ n) : atW ws n = [] := by
  unfold atW; rw [List.getElem?_eq_none h]; rfl
theorem atW_some {ws : List (List UInt8)} {n : Nat} (h : atW ws n ≠ []) : n < ws.length := by
  by_cases hn : n < ws.length
  · exact hn
  · exact absurd (atW_ge (by omega)) h
def kindW (s : List UInt8) : Int := if s = [97, 110, 100] then 2 else if s = [111, 114] then 3 else if s = [105, 102] then 4 else if s = [119, 105, 116, 104] then 5 else if s = [119, 105, 116, 104, 111, 117, 116] then 6 else 0
def argsF (rd : Nat → Option (DepT × Nat)) (ws : List (List UInt8)) (kw : List UInt8) : Nat → List DepT → Nat → Option (List DepT × Nat)
  | 0, _, _ => none
  | g + 1, args, n => if atW ws n = kw then (if (kindW kw = 4 ∨ kindW kw = 6) ∧ 1 < args.length then none else match rd (n + 1) with
      | none => none
      | some (x, m) => argsF rd ws kw g (args ++ [x]) m) else some (args, n)
def elseF (rd : Nat → Option (DepT × Nat)) (ws : List (List UInt8)) (kw : List UInt8) (args : List DepT) (n : Nat) : Option (List DepT × Nat) :=
  if kindW kw = 4 ∧ atW ws n = [101, 108, 115, 101] then (match rd (n + 1) with
    | none => none
    | some (x, m) => some (args ++ [x], m)) else some (args, n)
def endF (ws : List (List UInt8)) (kw : List UInt8) : Option (List DepT × Nat) → Option (DepT × Nat)
  | none => none
  | some (args, n) => if atW ws n = [41] then some (.mk (kindW kw) [] 0 [] args, n + 1) else none
def restF (rd : Nat → Option (DepT × Nat)) (ws : List (List UInt8)) : Option (DepT × Nat) → Option (DepT × Nat)
  | none => none
  | some (first, n) => if kindW (atW ws n) = 0 then none else match argsF rd ws (atW ws n) (ws.length + 1) [first] n with
    | none => none
    | some (args, m) => endF ws (atW ws n) (elseF rd ws (atW ws n) args m)
def nameF (ws : List (List UInt8)) (n : Nat) : Option (DepT × Nat) := if nameB (atW ws n) = false then none else
  if signN (atW ws (n + 1)) = 0 then some (.mk 1 (atW ws n) 0 [] [], n + 1) else some (.mk 1 (atW ws n) (signN (atW ws (n + 1))) (atW ws (n + 2)) [], n + 3)
def readF (ws : List (List UInt8)) : Nat → Nat → Option (DepT × Nat)
  | 0, n => if atW ws n = [40] then none else nameF ws n
  | d + 1, n => if atW ws n = [40] then restF (readF ws d) ws (readF ws d (n + 1)) else nameF ws n
theorem readF_zero (ws : List (List UInt8)) (n : Nat) : readF ws 0 n = if atW ws n = [40] then none else nameF ws n := rfl
theorem readF_succ (ws : List (List UInt8)) (d n : Nat) : readF ws (d + 1) n = if atW ws n = [40] then restF (readF ws d) ws (readF ws d (n + 1)) else nameF ws n := rfl
def wsum (ws : List (List UInt8)) : Nat → Nat → Nat
  | _, 0 => 0
  | n, k + 1 => wsum ws n k + ((atW ws (n + k)).length + 1)
theorem wsum_add (ws : List (List UInt8)) (n : Nat) : ∀ (k j : Nat), wsum ws n (k + j) = wsum ws n k + wsum ws (n + k) j
  | k, 0 => rfl
  | k, j + 1 => by
    show wsum ws n (k + j) + ((atW ws (n + (k + j))).length + 1) = _
    rw [wsum_add ws n k j]
    show _ = wsum ws n k + (wsum ws (n + k) j + ((atW ws (n + k + j)).length + 1))
    rw [show n + (k + j) = n + k + j by omega]; omega
theorem argsSize_snoc (l : List DepT) (x : DepT) : argsSize (l ++ [x]) = argsSize l + x.size := by
  induction l with
  | nil => simp [argsSize]
  | cons a r ih => simp only [List.cons_append, argsSize, ih]; omega
def Fits (ws : List (List UInt8)) (rd : Nat → Option (DepT × Nat)) : Prop := ∀ n t m, rd n = some (t, m) → n < m ∧ t.size ≤ wsum ws n (m - n)
theorem nameF_fits (ws : List (List UInt8)) : Fits ws (nameF ws) := by
  intro n t m h
  unfold nameF at h
  split at h
  · cases h
  · split at h
    · cases h
      refine ⟨by omega, ?_⟩
      rw [show n + 1 - n = 1 by omega]
      show (DepT.mk 1 (atW ws n) 0 [] []).size ≤ 0 + ((atW ws (n + 0)).length + 1)
      unfold DepT.size argsSize; simp; omega
    · cases h
      refine ⟨by omega, ?_⟩
      rw [show n + 3 - n = 3 by omega]
      show (DepT.mk 1 (atW ws n) _ (atW ws (n + 2)) []).size ≤ 0 + ((atW ws (n + 0)).length + 1) + ((atW ws (n + 1)).length + 1) + ((atW ws (n + 2)).length + 1)
      unfold DepT.size argsSize; simp; omega
theorem argsF_fits {ws : List (List UInt8)} {rd : Nat → Option (DepT × Nat)} (hr : Fits ws rd) (kw : List UInt8) (s : Nat) : ∀ (g : Nat) (args : List DepT) (n : Nat) (r : List DepT) (m : Nat), argsF rd ws kw g args n = some (r, m) → s ≤ n → argsSize args ≤ wsum ws s (n - s) → n ≤ m ∧ argsSize r ≤ wsum ws s (m - s)
  | 0, _, _, _, _, h, _, _ => by cases h
  | g + 1, args, n, r, m, h, hs, hz => by
    unfold argsF at h
    split at h
    · split at h
      · cases h
      · split at h
        · cases h
        · rename_i x k hx
          obtain ⟨h1, h2⟩ := hr _ _ _ hx
          have := argsF_fits hr kw s g _ _ _ _ h (by omega) (by
            rw [argsSize_snoc, show k - s = (n - s) + 1 + (k - (n + 1)) by omega, wsum_add, wsum_add]
            rw [show s + (n - s + 1) = n + 1 by omega]; omega)
          exact ⟨by omega, this.2⟩
    · cases h; exact ⟨Nat.le_refl _, hz⟩
theorem elseF_fits {ws : List (List UInt8)} {rd : Nat → Option (DepT × Nat)} (hr : Fits ws rd) {kw : List UInt8} {s : Nat} {args : List DepT} {n : Nat} {r : List DepT} {m : Nat} (h : elseF rd ws kw args n = some (r, m)) (hs : s ≤ n) (hz : argsSize args ≤ wsum ws s (n - s)) : n ≤ m ∧ argsSize r ≤ wsum ws s (m - s) := by
  unfold elseF at h
  split at h
  · split at h
    · cases h
    · rename_i x k hx
      cases h
      obtain ⟨h1, h2⟩ := hr _ _ _ hx
      refine ⟨by omega, ?_⟩
      rw [argsSize_snoc, show m - s = (n - s) + 1 + (m - (n + 1)) by omega, wsum_add, wsum_add, show s + (n - s + 1) = n + 1 by omega]; omega
  · cases h; exact ⟨Nat.le_refl _, hz⟩
theorem restF_some {ws : List (List UInt8)} {rd : Nat → Option (DepT × Nat)} {o : Option (DepT × Nat)} {t : DepT} {m : Nat} (h : restF rd ws o = some (t, m)) :
    ∃ first n args k args' k', o = some (first, n) ∧ kindW (atW ws n) ≠ 0 ∧ argsF rd ws (atW ws n) (ws.length + 1) [first] n = some (args, k) ∧ elseF rd ws (atW ws n) args k = some (args', k') ∧ atW ws k' = [41] ∧ t = .mk (kindW (atW ws n)) [] 0 [] args' ∧ m = k' + 1 := by
  unfold restF at h
  split at h
  · cases h
  · rename_i first n
    split at h
    · cases h
    · rename_i hk
      split at h
      · cases h
      · rename_i args k ha
        unfold endF at h
        split at h
        · cases h
        · rename_i args' k' he
          split at h
          · rename_i hw
            cases h
            exact ⟨first, n, args, k, args', k', rfl, hk, ha, he, hw, rfl, rfl⟩
          · cases h
theorem readF_fits (ws : List (List UInt8)) : ∀ d, Fits ws (readF ws d)
  | 0, n, t, m, h => by
    rw [readF_zero] at h
    split at h
    · cases h
    · exact nameF_fits ws n t m h
  | d + 1, n, t, m, h => by
    rw [readF_succ] at h
    split at h
    · obtain ⟨first, n1, args, k, args', k', h1, _, h2, h3, _, rfl, rfl⟩ := restF_some h
      obtain ⟨a1, a2⟩ := readF_fits ws d _ _ _ h1
      obtain ⟨b1, b2⟩ := argsF_fits (readF_fits ws d) _ (n + 1) _ _ _ _ _ h2 (by omega) (by unfold argsSize argsSize; omega)
      obtain ⟨c1, c2⟩ := elseF_fits (readF_fits ws d) h3 (by omega) b2
      refine ⟨by omega, ?_⟩
      rw [show k' + 1 - n = 1 + (k' - (n + 1)) + 1 by omega, wsum_add, wsum_add]
      have e1 : ∀ j, wsum ws j 1 = (atW ws j).length + 1 := by intro j; simp [wsum]
      have e2 : (DepT.mk (kindW (atW ws n1)) [] 0 [] args').size = 1 + argsSize args' := by unfold DepT.size; simp; omega
      rw [e1, e2, e1]
      omega
    · exact nameF_fits ws n t m h
theorem readF_over {ws : List (List UInt8)} {d n : Nat} {t : DepT} {m : Nat} (h : readF ws d n = some (t, m)) (hm : ws.length < m) : formB t = false := by
  have key : nameF ws n = some (t, m) → formB t = false := by
    intro h
    unfold nameF at h
    split at h
    · cases h
    · rename_i hn
      split at h
      · cases h
        have : atW ws n = [] := atW_ge (by omega)
        rw [this] at hn
        exact absurd (by decide : nameB [] = false) hn
      · rename_i hs
        cases h
        have he : atW ws (n + 2) = [] := atW_ge (by omega)
        rw [he]
        unfold formB
        rw [if_pos rfl]
        unfold formName
        rw [if_neg hs, show decide (evrE [] = 0) = false by decide]
        simp
  cases d with
  | zero =>
    rw [readF_zero] at h
    split at h
    · cases h
    · exact key h
  | succ d =>
    rw [readF_succ] at h
    split at h
    · obtain ⟨first, n1, args, k, args', k', _, _, _, _, hw, _, rfl⟩ := restF_some h
      have := atW_some (ws := ws) (n := k') (by rw [hw]; simp)
      omega
    · exact key h
theorem argsF_congr {ws : List (List UInt8)} {rd rd' : Nat → Option (DepT × Nat)} {s : Nat} (h : ∀ n, s ≤ n → rd n = rd' n) (hf : Fits ws rd) (kw : List UInt8) : ∀ (g : Nat) (args : List DepT) (n : Nat), s ≤ n → argsF rd ws kw g args n = argsF rd' ws kw g args n
  | 0, _, _, _ => rfl
  | g + 1, args, n, hn => by
    unfold argsF
    rw [← h (n + 1) (by omega)]
    cases hx : rd (n + 1) with
    | none => rfl
    | some p =>
      obtain ⟨x, m⟩ := p
      have := (hf _ _ _ hx).1
      simp only
      rw [argsF_congr h hf kw g _ m (by omega)]
theorem argsF_le {ws : List (List UInt8)} {rd : Nat → Option (DepT × Nat)} (hf : Fits ws rd) (kw : List UInt8) : ∀ (g : Nat) (args : List DepT) (n : Nat) (r : List DepT) (m : Nat), argsF rd ws kw g args n = some (r, m) → n ≤ m
  | 0, _, _, _, _, h => by cases h
  | g + 1, args, n, r, m, h => by
    unfold argsF at h
    split at h
    · split at h
      · cases h
      · split at h
        · cases h
        · rename_i x k hx
          have := (hf _ _ _ hx).1
          have := argsF_le hf kw g _ _ _ _ h
          omega
    · cases h; exact Nat.le_refl _
theorem restF_congr {ws : List (List UInt8)} {rd rd' : Nat → Option (DepT × Nat)} {s : Nat} (h : ∀ n, s ≤ n → rd n = rd' n) (hf : Fits ws rd) : restF rd ws (rd s) = restF rd' ws (rd' s) := by
  rw [← h s (Nat.le_refl _)]
  cases hx : rd s with
  | none => rfl
  | some p =>
    obtain ⟨first, n⟩ := p
    have h1 := (hf _ _ _ hx).1
    unfold restF
    simp only
    rw [argsF_congr h hf _ _ _ _ (by omega)]
    split
    · rfl
    · cases ha : argsF rd' ws (atW ws n) (ws.length + 1) [first] n with
      | none => rfl
      | some q =>
        obtain ⟨args, k⟩ := q
        simp only
        have hk : n ≤ k := by
          rw [← argsF_congr h hf _ _ _ _ (by omega)] at ha
          exact argsF_le hf _ _ _ _ _ _ ha
        congr 1
        unfold elseF
        rw [h (k + 1) (by omega)]
theorem readF_deep (ws : List (List UInt8)) : ∀ (d d' n : Nat), ws.length ≤ n + d → ws.length ≤ n + d' → readF ws d n = readF ws d' n
  | 0, 0, _, _, _ => rfl
  | 0, d' + 1, n, h, _ => by
    have e : atW ws n = [] := atW_ge (by omega)
    rw [readF_zero, readF_succ, e]; rfl
  | d + 1, 0, n, _, h => by
    have e : atW ws n = [] := atW_ge (by omega)
    rw [readF_zero, readF_succ, e]; rfl
  | d + 1, d' + 1, n, h, h' => by
    rw [readF_succ, readF_succ]
    split
    · exact restF_congr (s := n + 1) (fun k hk => readF_deep ws d d' k (by omega) (by omega)) (readF_fits ws d)
    · rfl
end Go.Proofs.YtaegacblpbbndaaGreatDoor
end
section
namespace Go.Proofs.YtaegacblpbbndaaGreatDoor
open Go Go.RowKit
def RowX (p : Nat → Prop) (w : World) (v : Value) (n sz : Nat) (xs : List Value) : Prop :=
  RowIs w v n sz xs ∧ ∀ k, v.ownBlock = some k → k < w.heap.size ∧ p k
theorem RowX.go {p q : Nat → Prop} {w w' : World} {v : Value} {n sz : Nat} {xs : List Value} (h : RowX p w v n sz xs)
    (hb : ∀ k, k < w.heap.size → p k → q k ∧ w'.heap[k]? = w.heap[k]?) (hs : w.heap.size ≤ w'.heap.size) : RowX q w' v n sz xs := by
  obtain ⟨⟨h1, h2⟩, h3⟩ := h
  refine ⟨⟨h1, ?_⟩, fun k hk => ⟨Nat.lt_of_lt_of_le (h3 k hk).1 hs, (hb k (h3 k hk).1 (h3 k hk).2).1⟩⟩
  rcases h2 with h2 | ⟨b, o, c, rfl, hc⟩
  · exact .inl h2
  · refine .inr ⟨b, o, c, rfl, fun j u hu => ?_⟩
    have := h3 b rfl
    rw [World.cell?_of_block (w := w) (a := ⟨b, o + j, none⟩) (hb b this.1 this.2).2]
    exact hc j u hu
theorem RowX.owned {p : Nat → Prop} {w : World} {base : Nat} {e : TypeId} {v : Value} {n sz : Nat} {xs : List Value} (h : w.ownsRow base e sz v n xs) (hp : ∀ k, v.ownBlock = some k → base ≤ k → p k) : RowX p w v n sz xs :=
  ⟨RowIs.owned h, fun k hk => ⟨(h.lt k hk).2, hp k hk (h.lt k hk).1⟩⟩
theorem RowX.nil {p : Nat → Prop} {w : World} {sz : Nat} : RowX p w (.slice none 0 0) 0 sz [] := ⟨⟨by simp, .inl ⟨rfl, _, _, rfl⟩⟩, fun k hk => by cases hk⟩
theorem oneCell_owned {w : World} {base : Nat} {e : TypeId} {v : Value} {n sz : Nat} {xs : List Value} (h : w.ownsRow base e sz v n xs) : v.oneCell' = true := oneCell_is (RowIs.owned h)
mutual
def DepX (p : Nat → Prop) (w : World) : DepT → List Value → Prop
  | .mk k nm op ev args, cs => ∃ (sv : Value) (css : List (List Value)), cs = [.int .i64 k, S nm, .int .i64 op, S ev, sv] ∧ RowX p w sv args.length 5 css.flatten ∧ ArgsX p w args css
def ArgsX (p : Nat → Prop) (w : World) : List DepT → List (List Value) → Prop
  | [], css => css = []
  | d :: r, css => ∃ (c : List Value) (cr : List (List Value)), css = c :: cr ∧ DepX p w d c ∧ ArgsX p w r cr
end
section
variable {p q : Nat → Prop} {w w' : World}
mutual
theorem DepX.go (hb : ∀ k, k < w.heap.size → p k → q k ∧ w'.heap[k]? = w.heap[k]?) (hs : w.heap.size ≤ w'.heap.size) : ∀ (d : DepT) (cs : List Value), DepX p w d cs → DepX q w' d cs
  | .mk k nm op ev args, cs, h => by
    unfold DepX at h ⊢
    obtain ⟨sv, css, h1, h2, h3⟩ := h
    exact ⟨sv, css, h1, h2.go hb hs, ArgsX.go hb hs args css h3⟩
theorem ArgsX.go (hb : ∀ k, k < w.heap.size → p k → q k ∧ w'.heap[k]? = w.heap[k]?) (hs : w.heap.size ≤ w'.heap.size) : ∀ (l : List DepT) (css : List (List Value)), ArgsX p w l css → ArgsX q w' l css
  | [], css, h => by unfold ArgsX at h ⊢; exact h
  | d :: r, css, h => by
    unfold ArgsX at h ⊢
    obtain ⟨c, cr, h1, h2, h3⟩ := h
    exact ⟨c, cr, h1, DepX.go hb hs d c h2, ArgsX.go hb hs r cr h3⟩
end
mutual
theorem DepX.toC : ∀ (d : DepT) (cs : List Value), DepX p w d cs → DepC w d cs
  | .mk k nm op ev args, cs, h => by
    unfold DepX at h; unfold DepC
    obtain ⟨sv, css, h1, h2, h3⟩ := h
    exact ⟨sv, css, h1, h2.1, ArgsX.toC args css h3⟩
theorem ArgsX.toC : ∀ (l : List DepT) (css : List (List Value)), ArgsX p w l css → ArgsC w l css
  | [], css, h => by unfold ArgsX at h; unfold ArgsC; exact h
  | d :: r, css, h => by
    unfold ArgsX at h; unfold ArgsC
    obtain ⟨c, cr, h1, h2, h3⟩ := h
    exact ⟨c, cr, h1, DepX.toC d c h2, ArgsX.toC r cr h3⟩
end
theorem ArgsX.nil : ArgsX p w [] [] := by unfold ArgsX; rfl
theorem ArgsX.one {d : DepT} {c : List Value} (h : DepX p w d c) : ArgsX p w [d] [c] := by
  unfold ArgsX; exact ⟨c, [], rfl, h, ArgsX.nil⟩
theorem ArgsX.snoc {d : DepT} {c : List Value} (h : DepX p w d c) : ∀ {l : List DepT} {css : List (List Value)}, ArgsX p w l css → ArgsX p w (l ++ [d]) (css ++ [c])
  | [], css, h0 => by unfold ArgsX at h0; subst h0; exact ArgsX.one h
  | a :: r, css, h0 => by
    unfold ArgsX at h0
    obtain ⟨x, cr, rfl, h2, h3⟩ := h0
    show ArgsX p w (a :: (r ++ [d])) (x :: (cr ++ [c]))
    unfold ArgsX
    exact ⟨x, _, rfl, h2, ArgsX.snoc h h3⟩
theorem DepX.intro {k op : Int} {nm ev : List UInt8} {args : List DepT} {sv : Value} {css : List (List Value)} (h1 : RowX p w sv args.length 5 css.flatten) (h2 : ArgsX p w args css) : DepX p w (.mk k nm op ev args) [.int .i64 k, S nm, .int .i64 op, S ev, sv] := by
  unfold DepX; exact ⟨sv, css, rfl, h1, h2⟩
end
abbrev zeroD : Value := .agg #[.int .i64 0, S [], .int .i64 0, S [], .slice none 0 0]
theorem nameB_nil : nameB [] = false := by decide
theorem readF_le {ws : List (List UInt8)} {d n : Nat} {t : DepT} {m : Nat} (h : readF ws d n = some (t, m)) : m ≤ ws.length + 2 := by
  have key : nameF ws n = some (t, m) → m ≤ ws.length + 2 := by
    intro h
    unfold nameF at h
    split at h
    · cases h
    · rename_i hn
      have : n < ws.length := atW_some (fun e => hn (by rw [e]; exact nameB_nil))
      split at h <;> cases h <;> omega
  cases d with
  | zero => rw [readF_zero] at h; split at h; · cases h
            · exact key h
  | succ d =>
    rw [readF_succ] at h
    split at h
    · obtain ⟨first, n1, args, k, args', k', _, _, _, _, hw, _, rfl⟩ := restF_some h
      have := atW_some (ws := ws) (n := k') (by rw [hw]; simp)
      omega
    · exact key h
theorem readF_gt {ws : List (List UInt8)} {d n : Nat} {t : DepT} {m : Nat} (h : readF ws d n = some (t, m)) : n < m := (readF_fits ws d n t m h).1
theorem readF_pos {ws : List (List UInt8)} {d n : Nat} (h : 0 < d) (hw : atW ws n = [40]) : readF ws d n = restF (readF ws (d - 1)) ws (readF ws (d - 1) (n + 1)) := by
  obtain ⟨d, rfl⟩ : ∃ e, d = e + 1 := ⟨d - 1, by omega⟩
  rw [readF_succ, if_pos hw]; rfl
theorem readF_name {ws : List (List UInt8)} {d n : Nat} (hw : atW ws n ≠ [40]) : readF ws d n = nameF ws n := by
  cases d with
  | zero => rw [readF_zero, if_neg hw]
  | succ d => rw [readF_succ, if_neg hw]
def readA (ws : List (List UInt8)) (n : Nat) : Option (DepT × Nat) := readF ws ws.length n
theorem readA_name {ws : List (List UInt8)} {n : Nat} (hw : atW ws n ≠ [40]) : readA ws n = nameF ws n := readF_name hw
theorem readA_step {ws : List (List UInt8)} {n : Nat} (hw : atW ws n = [40]) : readA ws n = restF (readA ws) ws (readA ws (n + 1)) := by
  have hn : n < ws.length := atW_some (by rw [hw]; simp)
  unfold readA
  rw [readF_pos (by omega) hw]
  exact restF_congr (s := n + 1) (fun k hk => readF_deep ws _ _ k (by omega) (by omega)) (readF_fits ws _)
section
variable {rd : Nat → Option (DepT × Nat)} {ws : List (List UInt8)} {first : DepT} {n m : Nat} {args : List DepT} {kw : List UInt8} {g : Nat}
theorem restF_none : restF rd ws none = none := rfl
theorem restF_kind (h : kindW (atW ws n) = 0) : restF rd ws (some (first, n)) = none := by unfold restF; simp only; rw [if_pos h]
theorem restF_bad (h : kindW (atW ws n) ≠ 0) (ha : argsF rd ws (atW ws n) (ws.length + 1) [first] n = none) : restF rd ws (some (first, n)) = none := by unfold restF; simp only; rw [if_neg h, ha]
theorem restF_end (h : kindW (atW ws n) ≠ 0) (ha : argsF rd ws (atW ws n) (ws.length + 1) [first] n = some (args, m)) : restF rd ws (some (first, n)) = endF ws (atW ws n) (elseF rd ws (atW ws n) args m) := by unfold restF; simp only; rw [if_neg h, ha]
theorem argsF_stop (hg : 0 < g) (h : atW ws n ≠ kw) : argsF rd ws kw g args n = some (args, n) := by
  obtain ⟨g, rfl⟩ : ∃ e, g = e + 1 := ⟨g - 1, by omega⟩
  unfold argsF; rw [if_neg h]
theorem argsF_much (h : atW ws n = kw) (hk : (kindW kw = 4 ∨ kindW kw = 6) ∧ 1 < args.length) : argsF rd ws kw g args n = none := by
  cases g with
  | zero => rfl
  | succ g => unfold argsF; rw [if_pos h, if_pos hk]
theorem argsF_fail (h : atW ws n = kw) (hx : rd (n + 1) = none) : argsF rd ws kw g args n = none := by
  cases g with
  | zero => rfl
  | succ g => unfold argsF; rw [if_pos h, hx]; simp
theorem argsF_more {x : DepT} (hg : 0 < g) (h : atW ws n = kw) (hk : ¬ ((kindW kw = 4 ∨ kindW kw = 6) ∧ 1 < args.length)) (hx : rd (n + 1) = some (x, m)) : argsF rd ws kw g args n = argsF rd ws kw (g - 1) (args ++ [x]) m := by
  obtain ⟨g, rfl⟩ : ∃ e, g = e + 1 := ⟨g - 1, by omega⟩
  conv => lhs; unfold argsF
  rw [if_pos h, if_neg hk, hx]; rfl
theorem elseF_no (h : ¬ (kindW kw = 4 ∧ atW ws n = [101, 108, 115, 101])) : elseF rd ws kw args n = some (args, n) := by unfold elseF; rw [if_neg h]
theorem elseF_fail (h : kindW kw = 4 ∧ atW ws n = [101, 108, 115, 101]) (hx : rd (n + 1) = none) : elseF rd ws kw args n = none := by unfold elseF; rw [if_pos h, hx]
theorem elseF_more {x : DepT} (h : kindW kw = 4 ∧ atW ws n = [101, 108, 115, 101]) (hx : rd (n + 1) = some (x, m)) : elseF rd ws kw args n = some (args ++ [x], m) := by unfold elseF; rw [if_pos h, hx]
theorem endF_yes (h : atW ws n = [41]) : endF ws kw (some (args, n)) = some (.mk (kindW kw) [] 0 [] args, n + 1) := by unfold endF; simp only; rw [if_pos h]
theorem endF_no (h : atW ws n ≠ [41]) : endF ws kw (some (args, n)) = none := by unfold endF; simp only; rw [if_neg h]
theorem endF_none : endF ws kw none = none := rfl
theorem kindW_if : kindW kw = 4 ↔ kw = [105, 102] := by
  constructor
  · intro h; unfold kindW at h
    split at h; · cases h
    split at h; · cases h
    split at h; · assumption
    split at h; · cases h
    split at h <;> cases h
  · rintro rfl; rfl
theorem kindW_without : kindW kw = 6 ↔ kw = [119, 105, 116, 104, 111, 117, 116] := by
  constructor
  · intro h; unfold kindW at h
    split at h; · cases h
    split at h; · cases h
    split at h; · cases h
    split at h; · cases h
    split at h; · assumption
    cases h
  · rintro rfl; rfl
theorem kindW_lt (h : kindW (atW ws n) ≠ 0) : n < ws.length := atW_some (fun e => h (by rw [e]; rfl))
end
end Go.Proofs.YtaegacblpbbndaaGreatDoor
end
section
namespace Go.Proofs.YtaegacblpbbndaaGreatDoor
open Go Go.RowKit
theorem atW_len {ws : List (List UInt8)} (h : ∀ x ∈ ws, x.length ≤ 8388608) (n : Nat) : (atW ws n).length ≤ 8388608 := by
 by_cases hn : n < ws.length
 ·rw [atW_lt hn]; exact h _ (nth_mem hn)
 ·rw [atW_ge (by omega)]; simp
end Go.Proofs.YtaegacblpbbndaaGreatDoor
end
