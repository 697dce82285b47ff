/- The layer arch: the reference's table, scores and order, and that the program's are those. No condition. -/
import Derived.Test.YtcnmbdabnppbeaaArch4
namespace Go.Proofs.Ytcnmbdabnppbeaa
open Go Go.RowKit

theorem en_12 : Enters Try.prog 12 := enters_of Try.func12 (by kernel_rfl) rfl
theorem en_14 : Enters Try.prog 14 := enters_of Try.func14 (by kernel_rfl) rfl
theorem en_10 : Enters Try.prog 10 := enters_of Try.func10 (by kernel_rfl) rfl


abbrev iv (n : Nat) : Value := .int .i64 (n : Int)
def RTab (w : World) (b : Nat) (nv sv : Value) (m : ATab) : Prop := w.heap[b]? = some (.cells #[nv, sv] 47 (0, 0)) ∧ RowIs w nv m.length 1 (List.map S (m.map (·.1))) ∧ RowIs w sv m.length 1 (List.map iv (m.map (·.2.1)))
theorem RTab.ext {w w' : World} {b : Nat} {nv sv : Value} {m : ATab} (h : RTab w b nv sv m) (hb : Below w.heap.size w w') : RTab w' b nv sv m := ⟨below_keep hb h.1, h.2.1.ext hb, h.2.2.ext hb⟩
theorem nth_map {α β : Type} [Inhabited α] [Inhabited β] (g : α → β) (l : List α) (i : Nat) (h : i < l.length) : nth (l.map g) i = g (nth l i) := by
  unfold nth; rw [List.getElem?_map, List.getElem?_eq_getElem h]; rfl
theorem drop_nth {α : Type} [Inhabited α] {l : List α} {i : Nat} (h : i < l.length) : l.drop i = nth l i :: l.drop (i + 1) := by
  rw [List.drop_eq_getElem_cons h]; congr 1; unfold nth; rw [List.getElem?_eq_getElem h]; rfl
theorem tscore_cons (p : List UInt8 × (Nat × Nat)) (m : ATab) (a : List UInt8) : tscore (p :: m) a = if p.1 = a then p.2.1 else tscore m a := by
  unfold tscore alook
  rw [List.find?_cons]
  by_cases h : p.1 = a
  · rw [if_pos h]; simp [h]
  · rw [if_neg h]; simp [show ¬ a = p.1 from fun e => h e.symm]
theorem tscore_step {m : ATab} {i : Nat} (a : List UInt8) (h : i < m.length) : tscore (m.drop i) a = if nth (m.map (·.1)) i = a then nth (m.map (·.2.1)) i else tscore (m.drop (i + 1)) a := by
  rw [drop_nth h, tscore_cons, nth_map _ _ _ h, nth_map _ _ _ h]

set_option maxHeartbeats 400000 in
set_option maxRecDepth 100000 in
theorem refscore_any (b : Nat) (nv sv : Value) (m : ATab) (a : List UInt8) (w : World) (h : RTab w b nv sv m) (hl : m.length ≤ 1000) :
    Calls Try.prog 12 #[(.pointer (some ⟨b, 0, none⟩)), (S (a))] w (Ret fun v w' => v = .int .i64 (tscore m a : Int) ∧ w = w') := by
  refine calls_W Try.func12 rfl Try.ntmps12 ?_
  refine W_seq ?_
  refine W_reg ?_
  refine WO_pure (v := (.int .i64 (0))) rfl rfl ?_
  refine WO_nil ?_
  refine W_seq ?_
  refine W_seq ?_
  refine W_reg ?_
  refine WO_pure (v := (.int .i64 (0))) rfl rfl ?_
  refine WO_nil ?_
  refine W_block ?_
  refine W_loop (fun g σ' w' => ∃ (i : Nat), w = w' ∧ σ' 0 = (.pointer (some ⟨b, 0, none⟩)) ∧ σ' 1 = (S (a)) ∧ σ' 5 = (.int .i64 ((i : Int))) ∧ i ≤ m.length ∧ tscore m a = tscore (m.drop i) a ∧ g = m.length - i) ?_ ?_
  · refine ⟨_, 0, rfl, rfl, rfl, rfl, ?_, ?_, rfl⟩
    all_goals first | rfl | omega | simp
  · rintro g σl1 _ ⟨i, rfl, l1_0, l1_1, l1_5, f1_1, f1_2, rfl⟩
    refine W_anchor (d := 0) l1_0 (W_anchor (d := 1) l1_1 (W_anchor (d := 5) l1_5 (?_)))
    refine W_seq ?_
    refine W_seq ?_
    refine W_reg ?_
    refine WO_pure (v := (.int .i64 ((i : Int)))) rfl rfl ?_
    refine WO_pure (v := (.pointer (some ⟨b, 0, none⟩))) rfl rfl ?_
    refine WO_pure (v := (.pointer (some ⟨b, 0, none⟩))) rfl rfl ?_
    refine WO_same (v := (.pointer (some ⟨b, 0, none⟩))) rfl (by kernel_rfl) ?_
    refine WO_load (a := ⟨b, 0, none⟩) (v := (nv)) rfl rfl Try.underlying35 rfl (cell_of h.1 rfl) ?_
    refine WO_lenrow (v := nv) (m := m.length) (sz := 1) rfl rfl h.2.1 Try.underlying35 ?_
    refine WO_pure (v := (.bool (decide ((i : Int) < (m.length : Int))))) rfl rfl ?_
    refine WO_nil ?_
    refine W_if (p := (i : Int) < (m.length : Int)) rfl (fun c1 => ?_) (fun c1 => ?_)
    · skip
      refine W_skip ?_
      refine W_seq ?_
      refine W_block ?_
      refine W_seq ?_
      refine W_reg ?_
      refine WO_pure (v := (.pointer (some ⟨b, 0, none⟩))) rfl rfl ?_
      refine WO_pure (v := (.pointer (some ⟨b, 0, none⟩))) rfl rfl ?_
      refine WO_same (v := (.pointer (some ⟨b, 0, none⟩))) rfl (by kernel_rfl) ?_
      refine WO_load (a := ⟨b, 0, none⟩) (v := (nv)) rfl rfl Try.underlying35 rfl (cell_of h.1 rfl) ?_
      refine WO_pure (v := (.int .i64 ((i : Int)))) rfl rfl ?_
      refine WO_idx1 (v := nv) (f := S) (l := (m.map (·.1))) (i := i) rfl rfl rfl h.2.1 Try.underlying35 (fun _ => by kernel_rfl) (by first | rfl | omega) (by first | omega | (simp; omega)) (fun b1 o1 x1 => ?_)
      refine WO_load (v := (S (nth (m.map (·.1)) i))) rfl rfl Try.underlying9 rfl x1 ?_
      refine WO_pure (v := (S (a))) rfl rfl ?_
      refine WO_seql (l1 := nth (m.map (·.1)) i) (l2 := a) rfl rfl rfl ?_
      refine WO_nil ?_
      refine W_if (p := nth (m.map (·.1)) i = a) rfl (fun c2 => ?_) (fun c2 => ?_)
      · skip
        refine W_seq ?_
        refine W_reg ?_
        refine WO_pure (v := (.pointer (some ⟨b, 0, none⟩))) rfl rfl ?_
        refine WO_pure (v := (.pointer (some ⟨b, 0, none⟩))) rfl rfl ?_
        refine WO_same (v := (.pointer (some ⟨b, 1, none⟩))) rfl (by kernel_rfl) ?_
        refine WO_load (a := ⟨b, 1, none⟩) (v := (sv)) rfl rfl Try.underlying45 rfl (cell_of h.1 rfl) ?_
        refine WO_pure (v := (.int .i64 ((i : Int)))) rfl rfl ?_
        refine WO_idx1 (v := sv) (f := iv) (l := (m.map (·.2.1))) (i := i) rfl rfl rfl h.2.2 Try.underlying45 (fun _ => by kernel_rfl) (by first | rfl | omega) (by first | omega | (simp; omega)) (fun b2 o2 x2 => ?_)
        refine WO_load (v := (.int .i64 (((nth (m.map (·.2.1)) i : Nat) : Int)))) rfl rfl Try.underlying3 rfl x2 ?_
        refine WO_pure (v := (.int .i64 (((nth (m.map (·.2.1)) i : Nat) : Int)))) rfl rfl ?_
        refine WO_nil ?_
        refine W_ret ?_
        refine body_ret1 rfl (v0 := (.int .i64 (((nth (m.map (·.2.1)) i : Nat) : Int)))) rfl ?_
        exact ⟨by rw [f1_2, tscore_step a (by omega), if_pos c2], rfl⟩
      · skip
        refine W_skip ?_
        refine W_reg ?_
        refine WO_pure (v := (.int .i64 ((i : Int)))) rfl rfl ?_
        refine WO_add (v := (i : Int) + 1) rfl rfl rfl (by simp only [kLo, kHi]; omega) ?_
        refine WO_pure (v := (.int .i64 ((i : Int) + 1))) rfl rfl ?_
        refine WO_nil ?_
        refine ⟨_, ?_, i + 1, rfl, rfl, rfl, rfl, ?_, ?_, rfl⟩
        · omega
        · omega
        · rw [f1_2, tscore_step a (by omega), if_neg c2]
    · skip
      refine W_exit ?_
      refine W_seq ?_
      refine W_reg ?_
      refine WO_pure (v := (.int .i64 (0))) rfl rfl ?_
      refine WO_nil ?_
      refine W_ret ?_
      refine body_ret1 rfl (v0 := (.int .i64 (0))) rfl ?_
      exact ⟨by rw [f1_2, List.drop_of_length_le (by omega)]; rfl, rfl⟩


def refBetter (x y : Nat) : Int := if x = y then 0 else if 0 < x ∧ (y = 0 ∨ x < y) then -1 else 1
theorem refBetter_eq (x y : Nat) : refBetter x y = aBetter x y := by unfold refBetter aBetter; (repeat' split) <;> omega

set_option maxHeartbeats 400000 in
set_option maxRecDepth 100000 in
theorem refbetter_any (b : Nat) (nv sv : Value) (m : ATab) (a c : List UInt8) (w : World) (h : RTab w b nv sv m) (hl : m.length ≤ 1000) :
    Calls Try.prog 14 #[(.pointer (some ⟨b, 0, none⟩)), (S (a)), (S (c))] w (Ret fun v w' => v = .int .i64 (aBetter (tscore m a) (tscore m c)) ∧ w = w') := by
  refine calls_W Try.func14 rfl Try.ntmps14 ?_
  refine W_seq ?_
  refine W_reg ?_
  refine WO_pure (v := (.int .i64 (0))) rfl rfl ?_
  refine WO_nil ?_
  refine W_seq ?_
  refine W_reg ?_
  refine WO_pure (v := (.pointer (some ⟨b, 0, none⟩))) rfl rfl ?_
  refine WO_pure (v := (S (a))) rfl rfl ?_
  refine WO_call rfl (by exact en_12) (refscore_any b nv sv m _ _ h hl) ?_
  rintro _ _ ⟨rfl, rfl⟩
  refine WO_pure (v := (.int .i64 ((tscore m a : Int)))) rfl rfl ?_
  refine WO_nil ?_
  refine W_seq ?_
  refine W_reg ?_
  refine WO_pure (v := (.pointer (some ⟨b, 0, none⟩))) rfl rfl ?_
  refine WO_pure (v := (S (c))) rfl rfl ?_
  refine WO_call rfl (by exact en_12) (refscore_any b nv sv m _ _ h hl) ?_
  rintro _ _ ⟨rfl, rfl⟩
  refine WO_pure (v := (.int .i64 ((tscore m c : Int)))) rfl rfl ?_
  refine WO_nil ?_
  refine W_seq ?_
  refine W_seq ?_
  refine W_reg ?_
  refine WO_pure (v := (.int .i64 ((tscore m a : Int)))) rfl rfl ?_
  refine WO_pure (v := (.int .i64 ((tscore m c : Int)))) rfl rfl ?_
  refine WO_pure (v := (.bool (decide ((tscore m a : Int) = (tscore m c : Int))))) rfl rfl ?_
  refine WO_nil ?_
  refine W_if (p := (tscore m a : Int) = (tscore m c : Int)) rfl (fun c1 => ?_) (fun c1 => ?_)
  · skip
    refine W_seq ?_
    refine W_reg ?_
    refine WO_pure (v := (.int .i64 (0))) rfl rfl ?_
    refine WO_nil ?_
    refine W_ret ?_
    refine body_ret1 rfl (v0 := (.int .i64 (0))) rfl ?_
    exact ⟨by rw [← refBetter_eq, refBetter, if_pos (by omega)], rfl⟩
  · skip
    refine W_skip ?_
    refine W_seq ?_
    refine W_cut (fun σ' w' => w = w' ∧ σ' 28 = (.bool (decide (0 < tscore m a ∧ (tscore m c = 0 ∨ tscore m a < tscore m c))))) ?_ ?_
    · refine W_reg ?_
      refine WO_pure (v := (.int .i64 ((tscore m a : Int)))) rfl rfl ?_
      refine WO_pure (v := (.bool (decide (0 < (tscore m a : Int))))) rfl rfl ?_
      refine WO_pure (v := (.bool (decide (0 < (tscore m a : Int))))) rfl rfl ?_
      refine WO_splitp 20 (p := 0 < (tscore m a : Int)) (by exact rfl) (fun c2 => ?_) (fun c2 => ?_)
      · skip
        refine WO_pure (v := (.int .i64 ((tscore m c : Int)))) rfl rfl ?_
        refine WO_pure (v := (.bool (decide ((tscore m c : Int) = 0)))) rfl rfl ?_
        refine WO_pure (v := (.bool (decide ((tscore m c : Int) = 0)))) rfl rfl ?_
        refine WO_splitp 23 (p := (tscore m c : Int) = 0) (by exact rfl) (fun c3 => ?_) (fun c3 => ?_)
        · skip
          refine WO_pass rfl ?_
          refine WO_pass rfl ?_
          refine WO_pass rfl ?_
          refine WO_pure (v := (.bool (true))) rfl rfl ?_
          refine WO_pure (v := (.bool (true))) rfl rfl ?_
          refine WO_nil ?_
          exact ⟨rfl, (by show ((.bool (true)) : Value) = (.bool (decide (0 < tscore m a ∧ (tscore m c = 0 ∨ tscore m a < tscore m c)))); simp_all)⟩
        · skip
          refine WO_pure (v := (.int .i64 ((tscore m a : Int)))) rfl rfl ?_
          refine WO_pure (v := (.int .i64 ((tscore m c : Int)))) rfl rfl ?_
          refine WO_pure (v := (.bool (decide ((tscore m a : Int) < (tscore m c : Int))))) rfl rfl ?_
          refine WO_pure (v := (.bool (decide ((tscore m a : Int) < (tscore m c : Int))))) rfl rfl ?_
          refine WO_pure (v := (.bool (decide ((tscore m a : Int) < (tscore m c : Int))))) rfl rfl ?_
          refine WO_nil ?_
          exact ⟨rfl, (by show ((.bool (decide ((tscore m a : Int) < (tscore m c : Int)))) : Value) = (.bool (decide (0 < tscore m a ∧ (tscore m c = 0 ∨ tscore m a < tscore m c)))); simp_all)⟩
      · skip
        refine WO_pass rfl ?_
        refine WO_pass rfl ?_
        refine WO_pass rfl ?_
        refine WO_pass rfl ?_
        refine WO_pass rfl ?_
        refine WO_pass rfl ?_
        refine WO_pass rfl ?_
        refine WO_pure (v := (.bool (false))) rfl rfl ?_
        refine WO_nil ?_
        exact ⟨rfl, (by show ((.bool (false)) : Value) = (.bool (decide (0 < tscore m a ∧ (tscore m c = 0 ∨ tscore m a < tscore m c)))); simp_all)⟩
    · rintro σ1 _ ⟨rfl, h1_28⟩
      refine W_anchor (d := 28) h1_28 (?_)
      refine W_if (p := 0 < tscore m a ∧ (tscore m c = 0 ∨ tscore m a < tscore m c)) rfl (fun c4 => ?_) (fun c4 => ?_)
      · skip
        refine W_seq ?_
        refine W_reg ?_
        refine WO_pure (v := (.int .i64 (-1))) rfl rfl ?_
        refine WO_nil ?_
        refine W_ret ?_
        refine body_ret1 rfl (v0 := (.int .i64 (-1))) rfl ?_
        exact ⟨by rw [← refBetter_eq, refBetter, if_neg (by omega), if_pos (by assumption)], rfl⟩
      · skip
        refine W_skip ?_
        refine W_seq ?_
        refine W_reg ?_
        refine WO_pure (v := (.int .i64 (1))) rfl rfl ?_
        refine WO_nil ?_
        refine W_ret ?_
        refine body_ret1 rfl (v0 := (.int .i64 (1))) rfl ?_
        exact ⟨by rw [← refBetter_eq, refBetter, if_neg (by omega), if_neg (by assumption)], rfl⟩


theorem alook_pos {m : ATab} (hp : ∀ p ∈ m, 0 < p.2.1) (s : List UInt8) : (alook m s).isSome = decide (0 < tscore m s) := by
  unfold tscore
  cases hl : alook m s with
  | none => simp
  | some p =>
    have : ∃ q ∈ m, q.2 = p := by
      unfold alook at hl
      rw [Option.map_eq_some_iff] at hl
      obtain ⟨q, hq, rfl⟩ := hl
      exact ⟨q, List.mem_of_find?_eq_some hq, rfl⟩
    obtain ⟨q, hq, rfl⟩ := this
    have := hp q hq
    simp; omega
theorem byteAt_drop (text : List UInt8) (fr k : Nat) : byteAt (text.drop fr) k = byteAt text (fr + k) := by unfold byteAt; rw [List.getD_eq_getElem?_getD, List.getD_eq_getElem?_getD, List.getElem?_drop]
theorem seg_end {text : List UInt8} {fr i : Nat} (h1 : fr ≤ i) (h2 : i ≤ text.length) (ha : ((text.drop fr).take (i - fr)).all (fun b => !isSep b) = true) (hc : (decide (i < text.length) && !isSep (byteAt text i)) = false) :
    sepIdx (text.drop fr) = i - fr := by
  by_cases hi : i < text.length
  · refine sepIdx_hit (by rw [List.length_drop]; omega) ha ?_
    have : byteAt (text.drop fr) (i - fr) = byteAt text i := by rw [byteAt_drop]; congr 1; omega
    rw [this]; simpa [hi] using hc
  · rw [List.take_of_length_le (by rw [List.length_drop]; omega)] at ha
    rw [sepIdx_none ha, List.length_drop]; omega
theorem aput_new {m : ATab} {s : List UInt8} {v : Nat × Nat} (h : (alook m s).isSome = false) : aput m s v = m ++ [(s, v)] := by unfold aput; rw [if_neg (by rw [h]; simp)]
theorem pBad_look {s : List UInt8} {m : ATab} {im : Nat} (h : pBad s m im = false) : (alook m s).isSome = false := by unfold pBad at h; simp at h; simp [h.1]
theorem pBad_len {text : List UInt8} {fr i : Nat} {m : ATab} {im : Nat} (h : pBad ((text.drop fr).take (i - fr)) m im = false) (hi : i ≤ text.length) : i ≤ fr + 20 := by
  unfold pBad archName at h
  simp at h
  omega
theorem seg_more {text : List UInt8} {m : ATab} {sc fr i : Nat} (h1 : fr ≤ i) (hi : i < text.length) (hs : sepIdx (text.drop fr) = i - fr) (hb : pBad ((text.drop fr).take (i - fr)) m m.length = false) :
    pLoop ((text.drop fr).length + 1) (text.drop fr) m sc m.length = pLoop ((text.drop (i + 1)).length + 1) (text.drop (i + 1)) (m ++ [((text.drop fr).take (i - fr), (sc, m.length))]) (if byteAt text i = 62 then sc + 1 else sc) (m ++ [((text.drop fr).take (i - fr), (sc, m.length))]).length := by
  rw [pLoop_more (by rw [hs]; exact hb) (by rw [hs, List.length_drop]; omega), hs, aput_new (pBad_look hb), List.drop_drop, byteAt_drop, show fr + (i - fr) = i by omega, show fr + (i - fr + 1) = i + 1 by omega]
  simp
theorem seg_last {text : List UInt8} {m : ATab} {sc fr i : Nat} (h1 : fr ≤ i) (hi : i = text.length) (hs : sepIdx (text.drop fr) = i - fr) (hb : pBad ((text.drop fr).take (i - fr)) m m.length = false) :
    pLoop ((text.drop fr).length + 1) (text.drop fr) m sc m.length = some (m ++ [((text.drop fr).take (i - fr), (sc, m.length))]) := by
  rw [pLoop_last (by rw [hs]; exact hb) (by rw [hs, List.length_drop]; omega), hs, aput_new (pBad_look hb)]

set_option maxHeartbeats 2000000 in
set_option maxRecDepth 100000 in
theorem refparse_any (text : List UInt8) (w : World) (hlen : text.length ≤ 9223372036854775807) :
    Calls Try.prog 10 #[(S (text))] w (Ret fun v w' => (∃ m b nv sv, archParse text = some m ∧ v = .tuple #[.pointer (some ⟨b, 0, none⟩), .int .i64 0] ∧ RTab w' b nv sv m ∧ m.length ≤ 1000 ∧ Below w.heap.size w w') ∨ (archParse text = none ∧ v = .tuple #[.pointer none, .int .i64 40] ∧ Below w.heap.size w w')) := by
  refine calls_W Try.func10 rfl Try.ntmps10 ?_
  refine W_seq ?_
  refine W_reg ?_
  refine WO_pure (v := (.pointer none)) rfl rfl ?_
  refine WO_pure (v := (.int .i64 (0))) rfl rfl ?_
  refine WO_nil ?_
  refine W_seq ?_
  refine W_reg ?_
  refine WO_bslice (k := 1) (cs := #[(S ([110, 111, 97, 114, 99, 104]))]) (e := 9) rfl (fun _ => by kernel_rfl) (fun w1 n1 => ?_)
  have e1 : w1.heap[w.heap.size]? = some (.cells #[(S ([110, 111, 97, 114, 99, 104]))] 9 (0, 0)) := n1.here
  have z1 := n1.size
  have o1 := n1.owned (base := w.heap.size) (size := 1) (k := 1) (by omega) (by omega) rfl
  refine WO_bslice (k := 1) (cs := #[(.int .i64 (1))]) (e := 3) rfl (fun _ => by kernel_rfl) (fun w2 n2 => ?_)
  have e2 : w2.heap[w1.heap.size]? = some (.cells #[(.int .i64 (1))] 3 (0, 0)) := n2.here
  have z2 := n2.size
  have o2 := n2.owned (base := w.heap.size) (size := 1) (k := 1) (by omega) (by omega) rfl
  refine WO_same (v := (.agg #[(.slice (some ⟨w.heap.size, 0, none⟩) 1 1), (.slice (some ⟨w1.heap.size, 0, none⟩) 1 1)])) rfl (by kernel_rfl) ?_
  refine WO_box (v := (.agg #[(.slice (some ⟨w.heap.size, 0, none⟩) 1 1), (.slice (some ⟨w1.heap.size, 0, none⟩) 1 1)])) rfl rfl (fun w3 n3 => ?_)
  have e3 : w3.heap[w2.heap.size]? = some (.cells #[(.slice (some ⟨w.heap.size, 0, none⟩) 1 1), (.slice (some ⟨w1.heap.size, 0, none⟩) 1 1)] 47 (0, 0)) := n3.here
  have z3 := n3.size
  refine WO_pure (v := (.pointer (some ⟨w2.heap.size, 0, none⟩))) rfl rfl ?_
  refine WO_nil ?_
  refine W_seq ?_
  refine W_reg ?_
  refine WO_pure (v := (.int .i64 (2))) rfl rfl ?_
  refine WO_nil ?_
  refine W_seq ?_
  refine W_reg ?_
  refine WO_pure (v := (.int .i64 (0))) rfl rfl ?_
  refine WO_nil ?_
  refine W_seq ?_
  refine W_seq ?_
  refine W_reg ?_
  refine WO_pure (v := (.int .i64 (0))) rfl rfl ?_
  refine WO_nil ?_
  refine W_block ?_
  refine W_loop (fun g σ' w' => ∃ (i fr sc : Nat) (m : ATab) (nv sv : Value), σ' 0 = (S (text)) ∧ σ' 4 = (.pointer (some ⟨w2.heap.size, 0, none⟩)) ∧ σ' 5 = (.int .i64 ((sc : Int))) ∧ σ' 6 = (.int .i64 ((fr : Int))) ∧ σ' 7 = (.int .i64 ((i : Int))) ∧ Below w.heap.size w w' ∧ w'.heap[w2.heap.size]? = some (.cells #[(nv), (sv)] 47 (0, 0)) ∧ w'.ownsRow w.heap.size 9 1 nv (m.length) (List.map S (m.map (·.1))) ∧ w'.ownsRow w.heap.size 3 1 sv (m.length) (List.map iv (m.map (·.2.1))) ∧ fr ≤ i ∧ i ≤ text.length + 1 ∧ ((text.drop fr).take (i - fr)).all (fun b => !isSep b) = true ∧ archParse text = (if fr ≤ text.length then pLoop ((text.drop fr).length + 1) (text.drop fr) m sc m.length else some m) ∧ (1 ≤ m.length ∧ m.length ≤ 17 ∧ sc ≤ m.length + 1 ∧ 1 ≤ sc) ∧ (∀ p ∈ m, 0 < p.2.1) ∧ (i = text.length + 1 → fr = text.length + 1) ∧ fr ≤ 21 * m.length ∧ g = text.length + 1 - i) ?_ ?_
  · refine ⟨_, 0, 0, 2, [([110, 111, 97, 114, 99, 104], (1, 0))], (.slice (some ⟨w.heap.size, 0, none⟩) 1 1), (.slice (some ⟨w1.heap.size, 0, none⟩) 1 1), rfl, rfl, rfl, rfl, rfl, (n3.below (n2.below (n1.below (Below.refl w.heap.size w) (Below.refl w.heap.size w).size) (n1.below (Below.refl w.heap.size w) (Below.refl w.heap.size w).size).size) (n2.below (n1.below (Below.refl w.heap.size w) (Below.refl w.heap.size w).size) (n1.below (Below.refl w.heap.size w) (Below.refl w.heap.size w).size).size).size), e3, (by simpa [List.map_append, List.drop_take] using (n3.owns (n2.owns o1))), (by simpa [List.map_append, iv] using (n3.owns o2)), ?_, ?_, ?_, ?_, ?_, ?_, ?_, ?_, rfl⟩
    · omega
    · omega
    · rfl
    · rw [if_pos (by omega)]; rfl
    · simp
    · intro p hp; simp only [List.mem_singleton] at hp; subst hp; decide
    · omega
    · omega
  · rintro g σl1 wl1 ⟨i, fr, sc, m, nv, sv, l1_0, l1_4, l1_5, l1_6, l1_7, k1_1, k1_2, k1_3, k1_4, f1_1, f1_2, f1_3, f1_4, f1_5, f1_6, f1_7, f1_8, rfl⟩
    have z_wl1 := k1_1.size
    refine W_anchor (d := 0) l1_0 (W_anchor (d := 4) l1_4 (W_anchor (d := 5) l1_5 (W_anchor (d := 6) l1_6 (W_anchor (d := 7) l1_7 (?_)))))
    refine W_seq ?_
    refine W_seq ?_
    refine W_reg ?_
    refine WO_pure (v := (.int .i64 ((i : Int)))) rfl rfl ?_
    refine WO_pure (v := (S (text))) rfl rfl ?_
    refine WO_slen (l := text) rfl rfl Try.underlying9 ?_
    refine WO_pure (v := (.bool (decide ((i : Int) ≤ (text.length : Int))))) rfl rfl ?_
    refine WO_nil ?_
    refine W_if (p := (i : Int) ≤ (text.length : Int)) rfl (fun c1 => ?_) (fun c1 => ?_)
    · skip
      refine W_skip ?_
      refine W_seq ?_
      refine W_block ?_
      refine W_seq ?_
      refine W_cut (fun σ' w' => wl1 = w' ∧ σ' 0 = (S (text)) ∧ σ' 4 = (.pointer (some ⟨w2.heap.size, 0, none⟩)) ∧ σ' 5 = (.int .i64 ((sc : Int))) ∧ σ' 6 = (.int .i64 ((fr : Int))) ∧ σ' 7 = (.int .i64 ((i : Int))) ∧ σ' 35 = (.bool (decide (i < text.length) && !isSep (byteAt text i)))) ?_ ?_
      · refine W_reg ?_
        refine WO_pure (v := (.int .i64 ((i : Int)))) rfl rfl ?_
        refine WO_pure (v := (S (text))) rfl rfl ?_
        refine WO_slen (l := text) rfl rfl Try.underlying9 ?_
        refine WO_pure (v := (.bool (decide ((i : Int) < (text.length : Int))))) rfl rfl ?_
        refine WO_pure (v := (.bool (decide ((i : Int) < (text.length : Int))))) rfl rfl ?_
        refine WO_splitp 24 (p := (i : Int) < (text.length : Int)) (by exact rfl) (fun c2 => ?_) (fun c2 => ?_)
        · skip
          refine WO_pure (v := (S (text))) rfl rfl ?_
          refine WO_pure (v := (.int .i64 ((i : Int)))) rfl rfl ?_
          refine WO_sidx (l := text) (j := i) rfl rfl rfl Try.underlying9 (by first | rfl | omega) (by first | omega | (simp; omega)) ?_
          refine WO_pure (v := (.bool (!decide (((byteAt text i).toNat : Int) = 62)))) rfl rfl ?_
          refine WO_pure (v := (.bool (!decide (((byteAt text i).toNat : Int) = 62)))) rfl rfl ?_
          refine WO_pure (v := (.bool (!decide (((byteAt text i).toNat : Int) = 62)))) rfl rfl ?_
          refine WO_split 30 (b := !decide (((byteAt text i).toNat : Int) = 62)) (by exact rfl) (fun c3 => ?_) (fun c3 => ?_)
          · skip
            refine WO_pure (v := (S (text))) rfl rfl ?_
            refine WO_pure (v := (.int .i64 ((i : Int)))) rfl rfl ?_
            refine WO_sidx (l := text) (j := i) rfl rfl rfl Try.underlying9 (by first | rfl | omega) (by first | omega | (simp; omega)) ?_
            refine WO_pure (v := (.bool (!decide (((byteAt text i).toNat : Int) = 58)))) rfl rfl ?_
            refine WO_pure (v := (.bool (!decide (((byteAt text i).toNat : Int) = 58)))) rfl rfl ?_
            refine WO_nil ?_
            exact ⟨rfl, rfl, rfl, rfl, rfl, rfl, (by show ((.bool (!decide (((byteAt text i).toNat : Int) = 58))) : Value) = (.bool (decide (i < text.length) && !isSep (byteAt text i))); show Value.bool _ = Value.bool _; rw [Value.bool.injEq, Bool.eq_iff_iff]; simp_all [isSep, ← UInt8.toNat_inj]; try omega)⟩
          · skip
            refine WO_pass rfl ?_
            refine WO_pass rfl ?_
            refine WO_pass rfl ?_
            refine WO_pass rfl ?_
            refine WO_pure (v := (.bool (false))) rfl rfl ?_
            refine WO_nil ?_
            exact ⟨rfl, rfl, rfl, rfl, rfl, rfl, (by show ((.bool (false)) : Value) = (.bool (decide (i < text.length) && !isSep (byteAt text i))); show Value.bool _ = Value.bool _; rw [Value.bool.injEq, Bool.eq_iff_iff]; simp_all [isSep, ← UInt8.toNat_inj]; try omega)⟩
        · skip
          refine WO_pass rfl ?_
          refine WO_pass rfl ?_
          refine WO_pass rfl ?_
          refine WO_pass rfl ?_
          refine WO_pure (v := (.bool (false))) rfl rfl ?_
          refine WO_pure (v := (.bool (false))) rfl rfl ?_
          refine WO_pass rfl ?_
          refine WO_pass rfl ?_
          refine WO_pass rfl ?_
          refine WO_pass rfl ?_
          refine WO_pure (v := (.bool (false))) rfl rfl ?_
          refine WO_nil ?_
          exact ⟨rfl, rfl, rfl, rfl, rfl, rfl, (by show ((.bool (false)) : Value) = (.bool (decide (i < text.length) && !isSep (byteAt text i))); show Value.bool _ = Value.bool _; rw [Value.bool.injEq, Bool.eq_iff_iff]; simp_all [isSep, ← UInt8.toNat_inj]; try omega)⟩
      · rintro σ1 _ ⟨rfl, h1_0, h1_4, h1_5, h1_6, h1_7, h1_35⟩
        refine W_anchor (d := 0) h1_0 (W_anchor (d := 4) h1_4 (W_anchor (d := 5) h1_5 (W_anchor (d := 6) h1_6 (W_anchor (d := 7) h1_7 (W_anchor (d := 35) h1_35 (?_))))))
        refine W_cond (t := decide (i < text.length) && !isSep (byteAt text i)) rfl (fun c4 => ?_) (fun c4 => ?_)
        · skip
          refine W_exit ?_
          refine W_reg ?_
          refine WO_pure (v := (.int .i64 ((i : Int)))) rfl rfl ?_
          have hlt : i < 9223372036854775807 := by first | omega | (simp at c4; omega)
          refine WO_add (v := (i : Int) + 1) rfl rfl rfl (by simp only [kLo, kHi]; omega) ?_
          refine WO_pure (v := (.int .i64 ((i : Int) + 1))) rfl rfl ?_
          refine WO_nil ?_
          have h4 : i < text.length ∧ isSep (byteAt text i) = false := by simpa using c4
          refine ⟨_, ?_, (i + 1), fr, sc, m, nv, sv, rfl, rfl, rfl, rfl, rfl, k1_1, k1_2, (by simpa [List.map_append, List.drop_take] using k1_3), (by simpa [List.map_append, iv] using k1_4), ?_, ?_, ?_, ?_, ?_, ?_, ?_, ?_, rfl⟩
          · omega
          · omega
          · omega
          · rw [show i + 1 - fr = (i - fr) + 1 by omega]; exact all_take_snoc (by rw [List.length_drop]; omega) f1_3 (by rw [byteAt_drop, show fr + (i - fr) = i by omega, h4.2]; rfl)
          · exact f1_4
          · exact f1_5
          · exact f1_6
          · omega
          · omega
        · skip
          refine W_skip ?_
          refine W_seq ?_
          refine W_reg ?_
          refine WO_pure (v := (S (text))) rfl rfl ?_
          refine WO_pure (v := (.int .i64 ((fr : Int)))) rfl rfl ?_
          refine WO_pure (v := (.int .i64 ((i : Int)))) rfl rfl ?_
          refine WO_sslohi (l := text) (i := fr) (j := i) rfl rfl rfl rfl Try.underlying9 (by first | rfl | omega) (by first | rfl | omega) (by first | omega | (simp; omega)) (by first | omega | (simp; omega)) ?_
          refine WO_pure (v := (S (((text.take i).drop fr)))) rfl rfl ?_
          refine WO_nil ?_
          refine W_seq ?_
          refine W_reg ?_
          refine WO_pure (v := (S (((text.take i).drop fr)))) rfl rfl ?_
          refine WO_call rfl (by exact en_17) (refname_any _ _ (by rw [List.length_drop, List.length_take]; omega)) ?_
          rintro _ _ ⟨rfl, rfl⟩
          refine WO_pure (v := (.bool (refnameB ((text.take i).drop fr)))) rfl rfl ?_
          refine WO_nil ?_
          refine W_seq ?_
          refine W_cut (fun σ' w' => wl1 = w' ∧ σ' 0 = (S (text)) ∧ σ' 4 = (.pointer (some ⟨w2.heap.size, 0, none⟩)) ∧ σ' 5 = (.int .i64 ((sc : Int))) ∧ σ' 7 = (.int .i64 ((i : Int))) ∧ σ' 8 = (S (((text.take i).drop fr))) ∧ σ' 57 = (.bool (pBad ((text.drop fr).take (i - fr)) m m.length))) ?_ ?_
          · refine W_reg ?_
            refine WO_pure (v := (.bool (refnameB ((text.take i).drop fr)))) rfl rfl ?_
            refine WO_pure (v := (.bool (!(refnameB ((text.take i).drop fr))))) rfl rfl ?_
            refine WO_pure (v := (.bool (!(refnameB ((text.take i).drop fr))))) rfl rfl ?_
            refine WO_split 44 (b := !(refnameB ((text.take i).drop fr))) (by exact rfl) (fun c5 => ?_) (fun c5 => ?_)
            · skip
              refine WO_pass rfl ?_
              refine WO_pass rfl ?_
              refine WO_pass rfl ?_
              refine WO_pass rfl ?_
              refine WO_pure (v := (.bool (true))) rfl rfl ?_
              refine WO_pure (v := (.bool (true))) rfl rfl ?_
              refine WO_pass rfl ?_
              refine WO_pass rfl ?_
              refine WO_pass rfl ?_
              refine WO_pass rfl ?_
              refine WO_pass rfl ?_
              refine WO_pass rfl ?_
              refine WO_pure (v := (.bool (true))) rfl rfl ?_
              refine WO_nil ?_
              exact ⟨rfl, rfl, rfl, rfl, rfl, rfl, (by show ((.bool (true)) : Value) = (.bool (pBad ((text.drop fr).take (i - fr)) m m.length)); show Value.bool _ = Value.bool _; rw [Value.bool.injEq, Bool.eq_iff_iff, pBad, alook_pos f1_6, archName_ref, ← List.drop_take]; simp_all; try omega)⟩
            · skip
              refine WO_pure (v := (.pointer (some ⟨w2.heap.size, 0, none⟩))) rfl rfl ?_
              refine WO_pure (v := (S (((text.take i).drop fr)))) rfl rfl ?_
              refine WO_call rfl (by exact en_12) (refscore_any w2.heap.size nv sv m _ _ ⟨k1_2, RowIs.owned k1_3, RowIs.owned k1_4⟩ (by omega)) ?_
              rintro _ _ ⟨rfl, rfl⟩
              refine WO_pure (v := (.bool (decide (0 < (tscore m ((text.take i).drop fr) : Int))))) rfl rfl ?_
              refine WO_pure (v := (.bool (decide (0 < (tscore m ((text.take i).drop fr) : Int))))) rfl rfl ?_
              refine WO_pure (v := (.bool (decide (0 < (tscore m ((text.take i).drop fr) : Int))))) rfl rfl ?_
              refine WO_splitp 50 (p := 0 < (tscore m ((text.take i).drop fr) : Int)) (by exact rfl) (fun c6 => ?_) (fun c6 => ?_)
              · skip
                refine WO_pass rfl ?_
                refine WO_pass rfl ?_
                refine WO_pass rfl ?_
                refine WO_pass rfl ?_
                refine WO_pass rfl ?_
                refine WO_pass rfl ?_
                refine WO_pure (v := (.bool (true))) rfl rfl ?_
                refine WO_nil ?_
                exact ⟨rfl, rfl, rfl, rfl, rfl, rfl, (by show ((.bool (true)) : Value) = (.bool (pBad ((text.drop fr).take (i - fr)) m m.length)); show Value.bool _ = Value.bool _; rw [Value.bool.injEq, Bool.eq_iff_iff, pBad, alook_pos f1_6, archName_ref, ← List.drop_take]; simp_all; try omega)⟩
              · skip
                refine WO_pure (v := (.pointer (some ⟨w2.heap.size, 0, none⟩))) rfl rfl ?_
                refine WO_pure (v := (.pointer (some ⟨w2.heap.size, 0, none⟩))) rfl rfl ?_
                refine WO_same (v := (.pointer (some ⟨w2.heap.size, 0, none⟩))) rfl (by kernel_rfl) ?_
                refine WO_load (a := ⟨w2.heap.size, 0, none⟩) (v := (nv)) rfl rfl Try.underlying35 rfl (cell_of k1_2 rfl) ?_
                refine WO_lenrow (v := nv) (m := m.length) (sz := 1) rfl rfl (RowIs.owned k1_3) Try.underlying35 ?_
                refine WO_pure (v := (.bool (decide (16 < (m.length : Int))))) rfl rfl ?_
                refine WO_pure (v := (.bool (decide (16 < (m.length : Int))))) rfl rfl ?_
                refine WO_nil ?_
                exact ⟨rfl, rfl, rfl, rfl, rfl, rfl, (by show ((.bool (decide (16 < (m.length : Int)))) : Value) = (.bool (pBad ((text.drop fr).take (i - fr)) m m.length)); show Value.bool _ = Value.bool _; rw [Value.bool.injEq, Bool.eq_iff_iff, pBad, alook_pos f1_6, archName_ref, ← List.drop_take]; simp_all; try omega)⟩
          · rintro σ2 _ ⟨rfl, h2_0, h2_4, h2_5, h2_7, h2_8, h2_57⟩
            refine W_anchor (d := 0) h2_0 (W_anchor (d := 4) h2_4 (W_anchor (d := 5) h2_5 (W_anchor (d := 7) h2_7 (W_anchor (d := 8) h2_8 (W_anchor (d := 57) h2_57 (?_))))))
            refine W_cond (t := pBad ((text.drop fr).take (i - fr)) m m.length) rfl (fun c7 => ?_) (fun c7 => ?_)
            · skip
              refine W_seq ?_
              refine W_reg ?_
              refine WO_pure (v := (.pointer none)) rfl rfl ?_
              refine WO_pure (v := (.int .i64 (40))) rfl rfl ?_
              refine WO_nil ?_
              refine W_ret ?_
              refine body_ret2 rfl (v0 := (.pointer none)) (v1 := (.int .i64 (40))) rfl rfl ?_
              have hbel := k1_1
              exact .inr ⟨by rw [f1_4, if_pos (by omega)]; exact pLoop_bad (by rw [seg_end f1_1 (by omega) f1_3 c4]; exact c7), rfl, hbel⟩
            · skip
              refine W_skip ?_
              refine W_seq ?_
              refine W_reg ?_
              have hi20 := pBad_len c7 (by omega)
              have hm16 := pBad_im c7
              refine WO_pure (v := (.pointer (some ⟨w2.heap.size, 0, none⟩))) rfl rfl ?_
              refine WO_pure (v := (.pointer (some ⟨w2.heap.size, 0, none⟩))) rfl rfl ?_
              refine WO_pure (v := (.pointer (some ⟨w2.heap.size, 0, none⟩))) rfl rfl ?_
              refine WO_same (v := (.pointer (some ⟨w2.heap.size, 0, none⟩))) rfl (by kernel_rfl) ?_
              refine WO_load (a := ⟨w2.heap.size, 0, none⟩) (v := (nv)) rfl rfl Try.underlying35 rfl (cell_of k1_2 rfl) ?_
              refine WO_pure (v := (S (((text.take i).drop fr)))) rfl rfl ?_
              refine WO_bslice (k := 1) (cs := #[(S (((text.take i).drop fr)))]) (e := 9) rfl (fun _ => by kernel_rfl) (fun w4 n4 => ?_)
              have e4 : w4.heap[wl1.heap.size]? = some (.cells #[(S (((text.take i).drop fr)))] 9 (0, 0)) := n4.here
              have z4 := n4.size
              have o4 := n4.owned (base := w.heap.size) (size := 1) (k := 1) (by omega) (by omega) rfl
              have o5a := (n4.owns k1_3)
              refine WO_append1 (v := nv) (sz := 1) (base := w.heap.size) (bytes := 16) rfl rfl rfl Try.underlying35 (by kernel_rfl) (by decide) o5a rfl e4 (by simp [Value.oneCell']) (by omega) (by omega) (by omega) (fun a5 w5 o5 g5 y5 => ?_)
              have z5 := g5.size
              refine WO_pure (v := (.pointer (some ⟨w2.heap.size, 0, none⟩))) rfl rfl ?_
              refine WO_same (v := (.pointer (some ⟨w2.heap.size, 0, none⟩))) rfl (by kernel_rfl) ?_
              have p6 := (grown_keep g5 (n4.keep k1_2) (cell_ne_own o5a (n4.keep k1_2) (by decide)))
              refine WO_store (b := w2.heap.size) (o := 0) (v := (a5)) rfl rfl rfl (fun _ => by kernel_rfl) (oneC_owned o5) p6 (by simp) (fun w6 u6 => ?_)
              have e6 : w6.heap[w2.heap.size]? = some (.cells #[(a5), (sv)] 47 (0, 0)) := u6.here
              have z6 := u6.size
              refine WO_nil ?_
              refine W_seq ?_
              refine W_reg ?_
              refine WO_pure (v := (.pointer (some ⟨w2.heap.size, 0, none⟩))) rfl rfl ?_
              refine WO_pure (v := (.pointer (some ⟨w2.heap.size, 0, none⟩))) rfl rfl ?_
              refine WO_pure (v := (.pointer (some ⟨w2.heap.size, 0, none⟩))) rfl rfl ?_
              refine WO_same (v := (.pointer (some ⟨w2.heap.size, 1, none⟩))) rfl (by kernel_rfl) ?_
              refine WO_load (a := ⟨w2.heap.size, 1, none⟩) (v := (sv)) rfl rfl Try.underlying45 rfl (cell_of e6 rfl) ?_
              refine WO_pure (v := (.int .i64 ((sc : Int)))) rfl rfl ?_
              refine WO_bslice (k := 1) (cs := #[(.int .i64 ((sc : Int)))]) (e := 3) rfl (fun _ => by kernel_rfl) (fun w7 n7 => ?_)
              have e7 : w7.heap[w6.heap.size]? = some (.cells #[(.int .i64 ((sc : Int)))] 3 (0, 0)) := n7.here
              have z7 := n7.size
              have o7 := n7.owned (base := w.heap.size) (size := 1) (k := 1) (by omega) (by omega) rfl
              have o8a := (n7.owns (u6.owns (World.ownsRow.kept (n4.owns k1_4) g5 (own_ne_own (n4.owns k1_4) o5a (by decide))) (own_ne_cell (World.ownsRow.kept (n4.owns k1_4) g5 (own_ne_own (n4.owns k1_4) o5a (by decide))) p6 (by decide))))
              refine WO_append1 (v := sv) (sz := 1) (base := w.heap.size) (bytes := 8) rfl rfl rfl Try.underlying45 (by kernel_rfl) (by decide) o8a rfl e7 (by simp [Value.oneCell']) (by omega) (by omega) (by omega) (fun a8 w8 o8 g8 y8 => ?_)
              have z8 := g8.size
              refine WO_pure (v := (.pointer (some ⟨w2.heap.size, 0, none⟩))) rfl rfl ?_
              refine WO_same (v := (.pointer (some ⟨w2.heap.size, 1, none⟩))) rfl (by kernel_rfl) ?_
              have p9 := (grown_keep g8 (n7.keep e6) (cell_ne_own o8a (n7.keep e6) (by decide)))
              refine WO_store (b := w2.heap.size) (o := 1) (v := (a8)) rfl rfl rfl (fun _ => by kernel_rfl) (oneC_owned o8) p9 (by simp) (fun w9 u9 => ?_)
              have e9 : w9.heap[w2.heap.size]? = some (.cells #[(a5), (a8)] 47 (0, 0)) := u9.here
              have z9 := u9.size
              refine WO_nil ?_
              refine W_seq ?_
              refine W_cut (fun σ' w' => w9 = w' ∧ σ' 0 = (S (text)) ∧ σ' 4 = (.pointer (some ⟨w2.heap.size, 0, none⟩)) ∧ σ' 5 = (.int .i64 ((sc : Int))) ∧ σ' 7 = (.int .i64 ((i : Int))) ∧ σ' 87 = (.bool (decide (i < text.length) && decide (byteAt text i = 62)))) ?_ ?_
              · refine W_reg ?_
                refine WO_pure (v := (.int .i64 ((i : Int)))) rfl rfl ?_
                refine WO_pure (v := (S (text))) rfl rfl ?_
                refine WO_slen (l := text) rfl rfl Try.underlying9 ?_
                refine WO_pure (v := (.bool (decide ((i : Int) < (text.length : Int))))) rfl rfl ?_
                refine WO_pure (v := (.bool (decide ((i : Int) < (text.length : Int))))) rfl rfl ?_
                refine WO_splitp 82 (p := (i : Int) < (text.length : Int)) (by exact rfl) (fun c8 => ?_) (fun c8 => ?_)
                · skip
                  refine WO_pure (v := (S (text))) rfl rfl ?_
                  refine WO_pure (v := (.int .i64 ((i : Int)))) rfl rfl ?_
                  refine WO_sidx (l := text) (j := i) rfl rfl rfl Try.underlying9 (by first | rfl | omega) (by first | omega | (simp; omega)) ?_
                  refine WO_pure (v := (.bool (decide (((byteAt text i).toNat : Int) = 62)))) rfl rfl ?_
                  refine WO_pure (v := (.bool (decide (((byteAt text i).toNat : Int) = 62)))) rfl rfl ?_
                  refine WO_nil ?_
                  exact ⟨rfl, rfl, rfl, rfl, rfl, (by show ((.bool (decide (((byteAt text i).toNat : Int) = 62))) : Value) = (.bool (decide (i < text.length) && decide (byteAt text i = 62))); show Value.bool _ = Value.bool _; rw [Value.bool.injEq, Bool.eq_iff_iff]; simp_all [← UInt8.toNat_inj]; try omega)⟩
                · skip
                  refine WO_pass rfl ?_
                  refine WO_pass rfl ?_
                  refine WO_pass rfl ?_
                  refine WO_pass rfl ?_
                  refine WO_pure (v := (.bool (false))) rfl rfl ?_
                  refine WO_nil ?_
                  exact ⟨rfl, rfl, rfl, rfl, rfl, (by show ((.bool (false)) : Value) = (.bool (decide (i < text.length) && decide (byteAt text i = 62))); show Value.bool _ = Value.bool _; rw [Value.bool.injEq, Bool.eq_iff_iff]; simp_all [← UInt8.toNat_inj]; try omega)⟩
              · rintro σ3 _ ⟨rfl, h3_0, h3_4, h3_5, h3_7, h3_87⟩
                refine W_anchor (d := 0) h3_0 (W_anchor (d := 4) h3_4 (W_anchor (d := 5) h3_5 (W_anchor (d := 7) h3_7 (W_anchor (d := 87) h3_87 (?_)))))
                refine W_cond (t := decide (i < text.length) && decide (byteAt text i = 62)) rfl (fun c9 => ?_) (fun c9 => ?_)
                · skip
                  refine W_reg ?_
                  refine WO_pure (v := (.int .i64 ((sc : Int)))) rfl rfl ?_
                  refine WO_add (v := (sc : Int) + 1) rfl rfl rfl (by simp only [kLo, kHi]; omega) ?_
                  refine WO_pure (v := (.int .i64 ((sc : Int) + 1))) rfl rfl ?_
                  refine WO_nil ?_
                  refine W_reg ?_
                  refine WO_pure (v := (.int .i64 ((i : Int)))) rfl rfl ?_
                  refine WO_add (v := (i : Int) + 1) rfl rfl rfl (by simp only [kLo, kHi]; omega) ?_
                  refine WO_pure (v := (.int .i64 ((i : Int) + 1))) rfl rfl ?_
                  refine WO_nil ?_
                  refine W_reg ?_
                  refine WO_pure (v := (.int .i64 ((i : Int)))) rfl rfl ?_
                  have hlt : i < 9223372036854775807 := by first | omega | (simp at c4; omega)
                  refine WO_add (v := (i : Int) + 1) rfl rfl rfl (by simp only [kLo, kHi]; omega) ?_
                  refine WO_pure (v := (.int .i64 ((i : Int) + 1))) rfl rfl ?_
                  refine WO_nil ?_
                  have h4 : i < text.length ∧ byteAt text i = 62 := by simpa using c9
                  have him := pBad_im c7
                  refine ⟨_, ?_, (i + 1), (i + 1), (sc + 1), (m ++ [(((text.drop fr).take (i - fr)), (sc, m.length))]), a5, a8, rfl, rfl, rfl, rfl, rfl, (u9.below (grown_below g8 (n7.below (u6.below (grown_below g5 (n4.below k1_1 k1_1.size) (own_block_ge o5a)) (by omega)) (u6.below (grown_below g5 (n4.below k1_1 k1_1.size) (own_block_ge o5a)) (by omega)).size) (own_block_ge o8a)) (by omega)), e9, (by simpa [List.map_append, List.drop_take] using (u9.owns (World.ownsRow.kept (n7.owns (u6.owns o5 (own_ne_cell o5 p6 (by decide)))) g8 (own_ne_own (n7.owns (u6.owns o5 (own_ne_cell o5 p6 (by decide)))) o8a (by decide))) (own_ne_cell (World.ownsRow.kept (n7.owns (u6.owns o5 (own_ne_cell o5 p6 (by decide)))) g8 (own_ne_own (n7.owns (u6.owns o5 (own_ne_cell o5 p6 (by decide)))) o8a (by decide))) p9 (by decide)))), (by simpa [List.map_append, iv] using (u9.owns o8 (own_ne_cell o8 p9 (by decide)))), ?_, ?_, ?_, ?_, ?_, ?_, ?_, ?_, rfl⟩
                  · omega
                  · omega
                  · omega
                  · simp
                  · rw [f1_4, if_pos (by omega), seg_more f1_1 h4.1 (seg_end f1_1 (by omega) f1_3 c4) c7, if_pos h4.2, if_pos (by omega)]
                  · rw [List.length_append]; simp only [List.length_singleton]; omega
                  · intro p hp; rw [List.mem_append] at hp; rcases hp with hp | hp; exact f1_6 p hp; rw [List.mem_singleton] at hp; subst hp; show 0 < sc; omega
                  · omega
                  · rw [List.length_append]; simp only [List.length_singleton]; omega
                · skip
                  refine W_skip ?_
                  refine W_reg ?_
                  refine WO_pure (v := (.int .i64 ((i : Int)))) rfl rfl ?_
                  refine WO_add (v := (i : Int) + 1) rfl rfl rfl (by simp only [kLo, kHi]; omega) ?_
                  refine WO_pure (v := (.int .i64 ((i : Int) + 1))) rfl rfl ?_
                  refine WO_nil ?_
                  refine W_reg ?_
                  refine WO_pure (v := (.int .i64 ((i : Int)))) rfl rfl ?_
                  have hlt : i < 9223372036854775807 := by first | omega | (simp at c4; omega)
                  refine WO_add (v := (i : Int) + 1) rfl rfl rfl (by simp only [kLo, kHi]; omega) ?_
                  refine WO_pure (v := (.int .i64 ((i : Int) + 1))) rfl rfl ?_
                  refine WO_nil ?_
                  have h4 : ¬ (i < text.length ∧ byteAt text i = 62) := by simpa using c9
                  have him := pBad_im c7
                  refine ⟨_, ?_, (i + 1), (i + 1), sc, (m ++ [(((text.drop fr).take (i - fr)), (sc, m.length))]), a5, a8, rfl, rfl, rfl, rfl, rfl, (u9.below (grown_below g8 (n7.below (u6.below (grown_below g5 (n4.below k1_1 k1_1.size) (own_block_ge o5a)) (by omega)) (u6.below (grown_below g5 (n4.below k1_1 k1_1.size) (own_block_ge o5a)) (by omega)).size) (own_block_ge o8a)) (by omega)), e9, (by simpa [List.map_append, List.drop_take] using (u9.owns (World.ownsRow.kept (n7.owns (u6.owns o5 (own_ne_cell o5 p6 (by decide)))) g8 (own_ne_own (n7.owns (u6.owns o5 (own_ne_cell o5 p6 (by decide)))) o8a (by decide))) (own_ne_cell (World.ownsRow.kept (n7.owns (u6.owns o5 (own_ne_cell o5 p6 (by decide)))) g8 (own_ne_own (n7.owns (u6.owns o5 (own_ne_cell o5 p6 (by decide)))) o8a (by decide))) p9 (by decide)))), (by simpa [List.map_append, iv] using (u9.owns o8 (own_ne_cell o8 p9 (by decide)))), ?_, ?_, ?_, ?_, ?_, ?_, ?_, ?_, rfl⟩
                  · omega
                  · omega
                  · omega
                  · simp
                  · rw [f1_4, if_pos (by omega)]; by_cases hi : i < text.length
                    · rw [seg_more f1_1 hi (seg_end f1_1 (by omega) f1_3 c4) c7, if_neg (fun e => h4 ⟨hi, e⟩), if_pos (by omega)]
                    · rw [seg_last f1_1 (by omega) (seg_end f1_1 (by omega) f1_3 c4) c7, if_neg (by omega)]
                  · rw [List.length_append]; simp only [List.length_singleton]; omega
                  · intro p hp; rw [List.mem_append] at hp; rcases hp with hp | hp; exact f1_6 p hp; rw [List.mem_singleton] at hp; subst hp; show 0 < sc; omega
                  · omega
                  · rw [List.length_append]; simp only [List.length_singleton]; omega
    · skip
      refine W_exit ?_
      refine W_seq ?_
      refine W_reg ?_
      refine WO_pure (v := (.pointer (some ⟨w2.heap.size, 0, none⟩))) rfl rfl ?_
      refine WO_pure (v := (.pointer (some ⟨w2.heap.size, 0, none⟩))) rfl rfl ?_
      refine WO_pure (v := (.int .i64 (0))) rfl rfl ?_
      refine WO_nil ?_
      refine W_ret ?_
      refine body_ret2 rfl (v0 := (.pointer (some ⟨w2.heap.size, 0, none⟩))) (v1 := (.int .i64 (0))) rfl rfl ?_
      have hbel := k1_1
      exact .inl ⟨m, _, nv, sv, by rw [f1_4, if_neg (by omega)], rfl, ⟨k1_2, RowIs.owned k1_3, RowIs.owned k1_4⟩, by omega, hbel⟩

set_option maxHeartbeats 400000 in
set_option maxRecDepth 100000 in
theorem archScores_any (text a c : List UInt8) (w : World) (hl : text.length ≤ 9223372036854775807) :
    Calls Try.prog 4 #[(S (text)), (S (a)), (S (c))] w (Ret fun v w' => v = .bool true ∧ Below w.heap.size w w') := by
  refine calls_W Try.func4 rfl Try.ntmps4 ?_
  refine W_seq ?_
  refine W_reg ?_
  refine WO_pure (v := (.bool (false))) rfl rfl ?_
  refine WO_nil ?_
  refine W_seq ?_
  refine W_reg ?_
  refine WO_call rfl (by exact en_8) (awake_any _) ?_
  rintro _ w1 ⟨rfl, hb1⟩
  have z_w1 := hb1.size
  refine WO_pure (v := (.bool (true))) rfl rfl ?_
  refine WO_nil ?_
  refine W_seq ?_
  refine W_reg ?_
  refine WO_pure (v := (S (text))) rfl rfl ?_
  refine WO_call rfl (by exact en_9) (parse_any text _ (by omega)) ?_
  rintro _ w2 hP
  rcases hP with ⟨m, p, mb, hm, rfl, hT, hs, hb2⟩ | ⟨hm, rfl, hb2⟩
  have z_w2 := hb2.size
  · skip
    refine WO_pure rfl rfl ?_
    refine WO_pure (v := (.pointer (some ⟨p, 0, none⟩))) rfl rfl ?_
    refine WO_pure (v := (.int .i64 (0))) rfl rfl ?_
    refine WO_pure (v := (.pointer (some ⟨p, 0, none⟩))) rfl rfl ?_
    refine WO_pure (v := (.int .i64 (0))) rfl rfl ?_
    refine WO_nil ?_
    refine W_seq ?_
    refine W_reg ?_
    refine WO_pure (v := (S (text))) rfl rfl ?_
    refine WO_call rfl (by exact en_10) (refparse_any text _ hl) ?_
    rintro _ w3 hR
    rcases hR with ⟨m', q, nv, sv, hm', rfl, hR, hml, hb3⟩ | ⟨hm', rfl, hb3⟩
    all_goals rw [hm] at hm'; cases hm'
    replace hT := hT.ext hb3
    have z_w3 := hb3.size
    refine WO_pure rfl rfl ?_
    refine WO_pure (v := (.pointer (some ⟨q, 0, none⟩))) rfl rfl ?_
    refine WO_pure (v := (.int .i64 (0))) rfl rfl ?_
    refine WO_pure (v := (.pointer (some ⟨q, 0, none⟩))) rfl rfl ?_
    refine WO_pure (v := (.int .i64 (0))) rfl rfl ?_
    refine WO_nil ?_
    refine W_seq ?_
    refine W_cut (fun σ' w' => w3 = w' ∧ σ' 1 = (S (a)) ∧ σ' 2 = (S (c)) ∧ σ' 8 = (.pointer (some ⟨p, 0, none⟩)) ∧ σ' 10 = (.pointer (some ⟨q, 0, none⟩)) ∧ σ' 36 = (.bool (false))) ?_ ?_
    · refine W_reg ?_
      refine WO_pure (v := (.bool (true))) rfl rfl ?_
      refine WO_pure (v := (.bool (false))) rfl rfl ?_
      refine WO_pure (v := (.bool (false))) rfl rfl ?_
      refine WO_pure (v := (.int .i64 (0))) rfl rfl ?_
      refine WO_pure (v := (.int .i64 (0))) rfl rfl ?_
      refine WO_pure (v := (.bool (false))) rfl rfl ?_
      refine WO_pure (v := (.bool (false))) rfl rfl ?_
      refine WO_pure (v := (.bool (false))) rfl rfl ?_
      refine WO_pure (v := (.pointer (some ⟨p, 0, none⟩))) rfl rfl ?_
      refine WO_peql (a := (some ⟨p, 0, none⟩)) rfl rfl rfl Try.underlying23 ?_
      refine WO_pure (v := (.pointer (some ⟨q, 0, none⟩))) rfl rfl ?_
      refine WO_peql (a := (some ⟨q, 0, none⟩)) rfl rfl rfl Try.underlying27 ?_
      refine WO_bneq (a := false) (b := false) rfl rfl rfl Try.underlying4 ?_
      refine WO_pure (v := (.bool (false))) rfl rfl ?_
      refine WO_nil ?_
      exact ⟨rfl, rfl, rfl, rfl, rfl, rfl⟩
    · rintro σ1 _ ⟨rfl, h1_1, h1_2, h1_8, h1_10, h1_36⟩
      refine W_anchor (d := 1) h1_1 (W_anchor (d := 2) h1_2 (W_anchor (d := 8) h1_8 (W_anchor (d := 10) h1_10 (W_anchor (d := 36) h1_36 (?_)))))
      refine W_false rfl ?_
      refine W_skip ?_
      refine W_cut (fun σ' w' => w3 = w' ∧ σ' 6 = (.bool (true))) ?_ ?_
      · refine W_reg ?_
        refine WO_pure (v := (.pointer (some ⟨q, 0, none⟩))) rfl rfl ?_
        refine WO_peql (a := (some ⟨q, 0, none⟩)) rfl rfl rfl Try.underlying27 ?_
        refine WO_pure (v := (.bool (false))) rfl rfl ?_
        refine WO_pure (v := (.pointer (some ⟨p, 0, none⟩))) rfl rfl ?_
        refine WO_pure (v := (S (a))) rfl rfl ?_
        refine WO_call rfl (by exact en_11) (score_any p mb m _ _ hT hs) ?_
        rintro _ _ ⟨rfl, rfl⟩
        refine WO_pure (v := (.pointer (some ⟨q, 0, none⟩))) rfl rfl ?_
        refine WO_pure (v := (S (a))) rfl rfl ?_
        refine WO_call rfl (by exact en_12) (refscore_any q nv sv m _ _ hR hml) ?_
        rintro _ _ ⟨rfl, rfl⟩
        refine WO_pure (v := (.bool (decide ((tscore m a : Int) = (tscore m a : Int))))) rfl rfl ?_
        refine WO_pure (v := (.bool (decide ((tscore m a : Int) = (tscore m a : Int))))) rfl rfl ?_
        refine WO_splitp 47 (p := (tscore m a : Int) = (tscore m a : Int)) (by exact rfl) (fun c1 => ?_) (fun c1 => ?_)
        · skip
          refine WO_pure (v := (.pointer (some ⟨p, 0, none⟩))) rfl rfl ?_
          refine WO_pure (v := (S (c))) rfl rfl ?_
          refine WO_call rfl (by exact en_11) (score_any p mb m _ _ hT hs) ?_
          rintro _ _ ⟨rfl, rfl⟩
          refine WO_pure (v := (.pointer (some ⟨q, 0, none⟩))) rfl rfl ?_
          refine WO_pure (v := (S (c))) rfl rfl ?_
          refine WO_call rfl (by exact en_12) (refscore_any q nv sv m _ _ hR hml) ?_
          rintro _ _ ⟨rfl, rfl⟩
          refine WO_pure (v := (.bool (decide ((tscore m c : Int) = (tscore m c : Int))))) rfl rfl ?_
          refine WO_pure (v := (.bool (decide ((tscore m c : Int) = (tscore m c : Int))))) rfl rfl ?_
          refine WO_pure (v := (.bool (decide ((tscore m c : Int) = (tscore m c : Int))))) rfl rfl ?_
          refine WO_splitp 56 (p := (tscore m c : Int) = (tscore m c : Int)) (by exact rfl) (fun c2 => ?_) (fun c2 => ?_)
          · skip
            refine WO_pure (v := (.pointer (some ⟨p, 0, none⟩))) rfl rfl ?_
            refine WO_pure (v := (S (a))) rfl rfl ?_
            refine WO_pure (v := (S (c))) rfl rfl ?_
            refine WO_call rfl (by exact en_13) (better_any p mb m _ _ _ hT hs) ?_
            rintro _ _ ⟨rfl, rfl⟩
            refine WO_pure (v := (.pointer (some ⟨q, 0, none⟩))) rfl rfl ?_
            refine WO_pure (v := (S (a))) rfl rfl ?_
            refine WO_pure (v := (S (c))) rfl rfl ?_
            refine WO_call rfl (by exact en_14) (refbetter_any q nv sv m _ _ _ hR hml) ?_
            rintro _ _ ⟨rfl, rfl⟩
            refine WO_pure (v := (.bool (decide ((aBetter (tscore m a) (tscore m c)) = (aBetter (tscore m a) (tscore m c)))))) rfl rfl ?_
            refine WO_pure (v := (.bool (decide ((aBetter (tscore m a) (tscore m c)) = (aBetter (tscore m a) (tscore m c)))))) rfl rfl ?_
            refine WO_pure (v := (.bool (decide ((aBetter (tscore m a) (tscore m c)) = (aBetter (tscore m a) (tscore m c)))))) rfl rfl ?_
            refine WO_pure (v := (.bool (decide ((aBetter (tscore m a) (tscore m c)) = (aBetter (tscore m a) (tscore m c)))))) rfl rfl ?_
            refine WO_nil ?_
            exact ⟨rfl, (by show ((.bool (decide ((aBetter (tscore m a) (tscore m c)) = (aBetter (tscore m a) (tscore m c))))) : Value) = (.bool (true)); simp_all)⟩
          · skip
            refine WO_pass rfl ?_
            refine WO_pass rfl ?_
            refine WO_pass rfl ?_
            refine WO_pass rfl ?_
            refine WO_pass rfl ?_
            refine WO_pass rfl ?_
            refine WO_pass rfl ?_
            refine WO_pass rfl ?_
            refine WO_pass rfl ?_
            refine WO_pure (v := (.bool (false))) rfl rfl ?_
            refine WO_pure (v := (.bool (false))) rfl rfl ?_
            refine WO_pure (v := (.bool (false))) rfl rfl ?_
            refine WO_nil ?_
            exact ⟨rfl, (by show ((.bool (false)) : Value) = (.bool (true)); simp_all)⟩
        · skip
          refine WO_pass rfl ?_
          refine WO_pass rfl ?_
          refine WO_pass rfl ?_
          refine WO_pass rfl ?_
          refine WO_pass rfl ?_
          refine WO_pass rfl ?_
          refine WO_pass rfl ?_
          refine WO_pure (v := (.bool (false))) rfl rfl ?_
          refine WO_pure (v := (.bool (false))) rfl rfl ?_
          refine WO_pass rfl ?_
          refine WO_pass rfl ?_
          refine WO_pass rfl ?_
          refine WO_pass rfl ?_
          refine WO_pass rfl ?_
          refine WO_pass rfl ?_
          refine WO_pass rfl ?_
          refine WO_pass rfl ?_
          refine WO_pass rfl ?_
          refine WO_pure (v := (.bool (false))) rfl rfl ?_
          refine WO_pure (v := (.bool (false))) rfl rfl ?_
          refine WO_pure (v := (.bool (false))) rfl rfl ?_
          refine WO_nil ?_
          exact ⟨rfl, (by show ((.bool (false)) : Value) = (.bool (true)); simp_all)⟩
      · rintro σ2 _ ⟨rfl, h2_6⟩
        refine W_anchor (d := 6) h2_6 (?_)
        refine W_ret ?_
        refine body_ret1 rfl (v0 := (.bool (true))) rfl ?_
        have hbel := (below_ext (below_ext (below_ext (Below.refl w.heap.size w) hb1) hb2) hb3)
        exact ⟨rfl, hbel⟩
  · skip
    refine WO_pure rfl rfl ?_
    refine WO_pure (v := (.pointer none)) rfl rfl ?_
    refine WO_pure (v := (.int .i64 (40))) rfl rfl ?_
    refine WO_pure (v := (.pointer none)) rfl rfl ?_
    refine WO_pure (v := (.int .i64 (40))) rfl rfl ?_
    refine WO_nil ?_
    refine W_seq ?_
    refine W_reg ?_
    refine WO_pure (v := (S (text))) rfl rfl ?_
    refine WO_call rfl (by exact en_10) (refparse_any text _ hl) ?_
    rintro _ w3 hR
    rcases hR with ⟨m', q, nv, sv, hm', rfl, hR, hml, hb3⟩ | ⟨hm', rfl, hb3⟩
    rw [hm] at hm'; cases hm'
    have z_w3 := hb3.size
    refine WO_pure rfl rfl ?_
    refine WO_pure (v := (.pointer none)) rfl rfl ?_
    refine WO_pure (v := (.int .i64 (40))) rfl rfl ?_
    refine WO_pure (v := (.pointer none)) rfl rfl ?_
    refine WO_pure (v := (.int .i64 (40))) rfl rfl ?_
    refine WO_nil ?_
    refine W_seq ?_
    refine W_cut (fun σ' w' => w3 = w' ∧ σ' 1 = (S (a)) ∧ σ' 2 = (S (c)) ∧ σ' 8 = (.pointer none) ∧ σ' 10 = (.pointer none) ∧ σ' 36 = (.bool (false))) ?_ ?_
    · refine W_reg ?_
      refine WO_pure (v := (.bool (true))) rfl rfl ?_
      refine WO_pure (v := (.bool (false))) rfl rfl ?_
      refine WO_pure (v := (.bool (false))) rfl rfl ?_
      refine WO_pure (v := (.int .i64 (40))) rfl rfl ?_
      refine WO_pure (v := (.int .i64 (40))) rfl rfl ?_
      refine WO_pure (v := (.bool (false))) rfl rfl ?_
      refine WO_pure (v := (.bool (false))) rfl rfl ?_
      refine WO_pure (v := (.bool (false))) rfl rfl ?_
      refine WO_pure (v := (.pointer none)) rfl rfl ?_
      refine WO_peql (a := none) rfl rfl rfl Try.underlying23 ?_
      refine WO_pure (v := (.pointer none)) rfl rfl ?_
      refine WO_peql (a := none) rfl rfl rfl Try.underlying27 ?_
      refine WO_bneq (a := true) (b := true) rfl rfl rfl Try.underlying4 ?_
      refine WO_pure (v := (.bool (false))) rfl rfl ?_
      refine WO_nil ?_
      exact ⟨rfl, rfl, rfl, rfl, rfl, rfl⟩
    · rintro σ3 _ ⟨rfl, h3_1, h3_2, h3_8, h3_10, h3_36⟩
      refine W_anchor (d := 1) h3_1 (W_anchor (d := 2) h3_2 (W_anchor (d := 8) h3_8 (W_anchor (d := 10) h3_10 (W_anchor (d := 36) h3_36 (?_)))))
      refine W_false rfl ?_
      refine W_skip ?_
      refine W_cut (fun σ' w' => w3 = w' ∧ σ' 6 = (.bool (true))) ?_ ?_
      · refine W_reg ?_
        refine WO_pure (v := (.pointer none)) rfl rfl ?_
        refine WO_peql (a := none) rfl rfl rfl Try.underlying27 ?_
        refine WO_pure (v := (.bool (true))) rfl rfl ?_
        refine WO_pass rfl ?_
        refine WO_pass rfl ?_
        refine WO_pass rfl ?_
        refine WO_pass rfl ?_
        refine WO_pass rfl ?_
        refine WO_pass rfl ?_
        refine WO_pass rfl ?_
        refine WO_pass rfl ?_
        refine WO_pass rfl ?_
        refine WO_pass rfl ?_
        refine WO_pass rfl ?_
        refine WO_pass rfl ?_
        refine WO_pass rfl ?_
        refine WO_pass rfl ?_
        refine WO_pass rfl ?_
        refine WO_pass rfl ?_
        refine WO_pass rfl ?_
        refine WO_pass rfl ?_
        refine WO_pass rfl ?_
        refine WO_pass rfl ?_
        refine WO_pass rfl ?_
        refine WO_pass rfl ?_
        refine WO_pass rfl ?_
        refine WO_pass rfl ?_
        refine WO_pass rfl ?_
        refine WO_pass rfl ?_
        refine WO_pass rfl ?_
        refine WO_pure (v := (.bool (true))) rfl rfl ?_
        refine WO_pure (v := (.bool (true))) rfl rfl ?_
        refine WO_nil ?_
        exact ⟨rfl, (by show ((.bool (true)) : Value) = (.bool (true)); simp_all)⟩
      · rintro σ4 _ ⟨rfl, h4_6⟩
        refine W_anchor (d := 6) h4_6 (?_)
        refine W_ret ?_
        refine body_ret1 rfl (v0 := (.bool (true))) rfl ?_
        have hbel := (below_ext (below_ext (below_ext (Below.refl w.heap.size w) hb1) hb2) hb3)
        exact ⟨rfl, hbel⟩

end Go.Proofs.Ytcnmbdabnppbeaa
