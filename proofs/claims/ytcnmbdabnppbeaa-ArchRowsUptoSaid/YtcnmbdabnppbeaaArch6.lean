/- The layer arch: the law that builds a text out of names and signs, and reads their scores. No condition. -/
import Derived.Test.YtcnmbdabnppbeaaArch5
namespace Go.Proofs.Ytcnmbdabnppbeaa
open Go Go.RowKit


theorem nth_out {α : Type} [Inhabited α] {l : List α} {i : Nat} (h : l.length ≤ i) : nth l i = default := by unfold nth; rw [List.getElem?_eq_none h]; rfl
theorem take_nth {α : Type} [Inhabited α] {l : List α} {i : Nat} (h : i < l.length) : l.take (i + 1) = l.take i ++ [nth l i] := by
  rw [List.take_succ_eq_append_getElem h]; congr 2; unfold nth; rw [List.getElem?_eq_getElem h]; rfl
/-- Names joined by signs. -/
def jtext : List (List UInt8) → List Bool → List UInt8
  | [], _ => []
  | [a], _ => a
  | a :: b :: r, gs => a ++ (if nth gs 0 then 62 else 58) :: jtext (b :: r) gs.tail
theorem nth_tail (gs : List Bool) (k : Nat) : nth gs.tail k = nth gs (k + 1) := by cases gs <;> simp [nth]
theorem jtext_snoc : ∀ (l : List (List UInt8)) (gs : List Bool) (b : List UInt8), l ≠ [] → jtext (l ++ [b]) gs = (jtext l gs ++ [if nth gs (l.length - 1) then 62 else 58]) ++ b
  | [], _, _, h => absurd rfl h
  | [a], gs, b, _ => by simp [jtext]
  | a :: c :: r, gs, b, _ => by
    have ih := jtext_snoc (c :: r) gs.tail b (by simp)
    simp only [List.cons_append, jtext] at ih ⊢
    rw [ih, nth_tail]
    simp
theorem jt_zero {ns : List (List UInt8)} {gs : List Bool} (h : 0 < ns.length) : jtext (ns.take 0) gs ++ nth ns 0 = jtext (ns.take (0 + 1)) gs := by
  rw [take_nth h]; simp [jtext]
theorem jt_step {ns : List (List UInt8)} {gs : List Bool} {i : Nat} (h0 : 0 < i) (h : i < ns.length) : (jtext (ns.take i) gs ++ [if nth gs (i - 1) then 62 else 58]) ++ nth ns i = jtext (ns.take (i + 1)) gs := by
  rw [take_nth h, jtext_snoc _ _ _ (by intro e; have := congrArg List.length e; rw [List.length_take] at this; simp only [List.length_nil] at this; omega), List.length_take, Nat.min_eq_left (by omega)]
def bulkS (l : List (List UInt8)) : Nat := (l.map fun a => a.length + 1).sum
theorem bulkS_step {l : List (List UInt8)} {i : Nat} (h : i < l.length) : bulkS (l.drop i) = (nth l i).length + 1 + bulkS (l.drop (i + 1)) := by rw [drop_nth h]; simp [bulkS]
theorem len_le_bulkS (l : List (List UInt8)) : l.length ≤ bulkS l := by induction l with | nil => simp | cons a r ih => simp only [bulkS, List.map_cons, List.sum_cons, List.length_cons] at ih ⊢; omega
theorem nth_len_le : ∀ {l : List (List UInt8)} {i : Nat}, i < l.length → (nth l i).length ≤ bulkS l
  | [], _, h => by simp at h
  | a :: r, 0, _ => by show a.length ≤ _; simp only [bulkS, List.map_cons, List.sum_cons]; omega
  | a :: r, i + 1, h => by
    have := nth_len_le (l := r) (i := i) (by simpa using h)
    show (nth r i).length ≤ _; simp only [bulkS, List.map_cons, List.sum_cons] at this ⊢; omega
theorem jt_len {ns : List (List UInt8)} {gs : List Bool} {i : Nat} (h : i < ns.length) : (jtext (ns.take (i + 1)) gs).length ≤ (jtext (ns.take i) gs).length + 1 + (nth ns i).length := by
  by_cases h0 : 0 < i
  · rw [← jt_step h0 h]; simp; omega
  · obtain rfl : i = 0 := by omega
    rw [← jt_zero h]; simp
/-- The score of the j-th name. -/
def sAt : Nat → List Bool → Nat → Nat
  | re, _, 0 => re
  | re, gs, j + 1 => sAt (if nth gs 0 then re + 1 else re) gs.tail j
theorem sAt_succ : ∀ (j : Nat) (re : Nat) (gs : List Bool), sAt re gs (j + 1) = if nth gs j then sAt re gs j + 1 else sAt re gs j
  | 0, re, gs => by simp [sAt]
  | j + 1, re, gs => by rw [sAt, sAt_succ j, nth_tail]; rfl
theorem sAt_le (re : Nat) (gs : List Bool) : ∀ j, sAt re gs j ≤ re + j
  | 0 => by simp [sAt]
  | j + 1 => by rw [sAt_succ]; have := sAt_le re gs j; split <;> omega
theorem sAt_up {re : Nat} {gs : List Bool} {i : Nat} (h : 0 < i) : sAt re gs i = if nth gs (i - 1) then sAt re gs (i - 1) + 1 else sAt re gs (i - 1) := by
  obtain ⟨j, rfl⟩ : ∃ j, i = j + 1 := ⟨i - 1, by omega⟩
  exact sAt_succ j re gs
theorem sepIdx_app {a rest : List UInt8} {c : UInt8} (ha : a.all (fun b => !isSep b) = true) (hc : isSep c = true) : sepIdx (a ++ c :: rest) = a.length := by
  refine sepIdx_hit (by simp) (by simpa using ha) ?_
  unfold byteAt; simpa using hc
theorem alook_put {m : ATab} {s : List UInt8} {v : Nat × Nat} (h : (alook m s).isSome = false) : alook (aput m s v) s = some v := by
  rw [aput_new h]
  unfold alook at h ⊢
  rw [List.find?_append]
  cases hf : m.find? (fun p => decide (s = p.1)) with
  | some p => rw [hf] at h; simp at h
  | none => simp
theorem tscore_of {m : ATab} {s : List UInt8} {v : Nat × Nat} (h : alook m s = some v) : tscore m s = v.1 := by unfold tscore; rw [h]; rfl
theorem rows_law : ∀ (r : List (List UInt8)) (a : List UInt8) (gs : List Bool) (f : Nat) (m m' : ATab) (re im : Nat), (∀ x ∈ a :: r, x.all (fun b => !isSep b) = true) → pLoop f (jtext (a :: r) gs) m re im = some m' →
    ∀ j, j < (a :: r).length → tscore m' (nth (a :: r) j) = sAt re gs j
  | _, _, _, 0, _, _, _, _, _, h => by cases h
  | [], a, gs, f + 1, m, m', re, im, hs, h => by
    intro j hj
    obtain rfl : j = 0 := by simp at hj; exact hj
    have hi : sepIdx (jtext [a] gs) = a.length := sepIdx_none (hs a (by simp))
    unfold pLoop at h
    split at h
    · cases h
    · rename_i hb
      rw [hi, if_neg (by simp [jtext])] at h
      cases h
      rw [hi] at hb
      have ht : (jtext [a] gs).take a.length = a := by simp [jtext]
      rw [ht] at hb ⊢
      exact tscore_of (alook_put (pBad_look (by simpa using hb)))
  | b :: r, a, gs, f + 1, m, m', re, im, hs, h => by
    have hsep : isSep (if nth gs 0 then 62 else 58) = true := by split <;> rfl
    have hi : sepIdx (jtext (a :: b :: r) gs) = a.length := sepIdx_app (hs a (by simp)) hsep
    unfold pLoop at h
    split at h
    · cases h
    · rename_i hb
      rw [hi] at hb h
      have ht : (jtext (a :: b :: r) gs).take a.length = a := by simp [jtext]
      have hd : (jtext (a :: b :: r) gs).drop (a.length + 1) = jtext (b :: r) gs.tail := by simp [jtext]
      have hc : byteAt (jtext (a :: b :: r) gs) a.length = if nth gs 0 then 62 else 58 := by unfold byteAt; simp [jtext]
      rw [ht] at hb
      rw [if_pos (by simp [jtext]), ht, hd, hc] at h
      have hl := pBad_look (by simpa using hb)
      intro j hj
      cases j with
      | zero => exact tscore_of (pLoop_keeps _ _ _ _ _ _ (alook_put (v := (re, im)) hl) h)
      | succ j =>
        have := rows_law r b gs.tail f _ m' _ _ (fun x hx => hs x (by simp [hx])) h j (by simpa using hj)
        have hn : nth (a :: b :: r) (j + 1) = nth (b :: r) j := rfl
        rw [hn, this, sAt]
        congr 1
        cases nth gs 0 <;> rfl
theorem archRows_law {ns : List (List UInt8)} {gs : List Bool} {m : ATab} (hs : ∀ j, j < ns.length → (nth ns j).all (fun b => !isSep b) = true) (h : archParse (jtext ns gs) = some m) (i : Nat) (hi : i < ns.length) : tscore m (nth ns i) = sAt 2 gs i := by
  cases ns with
  | nil => simp at hi
  | cons a r =>
    refine rows_law r a gs _ _ m 2 1 (fun x hx => ?_) h i hi
    obtain ⟨j, hj, rfl⟩ := List.getElem_of_mem hx
    have := hs j hj
    unfold nth at this; rw [List.getElem?_eq_getElem hj] at this; exact this

set_option maxHeartbeats 2000000 in
set_option maxRecDepth 100000 in
theorem archRows_any (ns : List (List UInt8)) (gs : List Bool) (v0 v1 : Value) (w : World) (h0 : RowIs w v0 ns.length 1 (List.map S ns)) (h1 : RowIs w v1 gs.length 1 (List.map Value.bool gs)) (hb : bulkS ns ≤ 2097152) (hg : gs.length ≤ 2097152) :
    Calls Try.prog 7 #[(v0), (v1)] w (Ret fun v w' => v = .bool true ∧ Below w.heap.size w w') := by
  have hnl := len_le_bulkS ns
  refine calls_W Try.func7 rfl Try.ntmps7 ?_
  refine W_seq ?_
  refine W_reg ?_
  refine WO_pure (v := (.bool (false))) rfl rfl ?_
  refine WO_nil ?_
  refine W_seq ?_
  refine W_reg ?_
  refine WO_call rfl (by exact en_8) (awake_any _) ?_
  rintro _ w1 ⟨rfl, hb1⟩
  have z_w1 := hb1.size
  refine WO_pure (v := (.bool (true))) rfl rfl ?_
  refine WO_nil ?_
  refine W_seq ?_
  refine W_reg ?_
  refine WO_pure (v := (S ([]))) rfl rfl ?_
  refine WO_nil ?_
  refine W_seq ?_
  refine W_seq ?_
  refine W_reg ?_
  refine WO_pure (v := (.int .i64 (0))) rfl rfl ?_
  refine WO_nil ?_
  refine W_block ?_
  refine W_loop (fun g σ' w' => ∃ (i : Nat), w1 = w' ∧ σ' 0 = (v0) ∧ σ' 1 = (v1) ∧ σ' 5 = (.bool (true)) ∧ σ' 6 = (S (jtext (ns.take i) gs)) ∧ σ' 7 = (.int .i64 ((i : Int))) ∧ i ≤ ns.length ∧ (jtext (ns.take i) gs).length + bulkS (ns.drop i) ≤ 2097152 ∧ g = ns.length - i) ?_ ?_
  · refine ⟨_, 0, rfl, rfl, rfl, rfl, rfl, rfl, ?_, ?_, rfl⟩
    · omega
    · simpa [jtext] using hb
  · rintro g σl1 _ ⟨i, rfl, l1_0, l1_1, l1_5, l1_6, l1_7, f1_1, f1_2, rfl⟩
    refine W_anchor (d := 0) l1_0 (W_anchor (d := 1) l1_1 (W_anchor (d := 5) l1_5 (W_anchor (d := 6) l1_6 (W_anchor (d := 7) l1_7 (?_)))))
    refine W_seq ?_
    refine W_seq ?_
    refine W_reg ?_
    refine WO_pure (v := (.int .i64 ((i : Int)))) rfl rfl ?_
    refine WO_pure (v := (v0)) rfl rfl ?_
    refine WO_lenrow (v := v0) (m := ns.length) (sz := 1) rfl rfl (h0.ext hb1) Try.underlying35 ?_
    refine WO_pure (v := (.bool (decide ((i : Int) < (ns.length : Int))))) rfl rfl ?_
    refine WO_nil ?_
    refine W_if (p := (i : Int) < (ns.length : Int)) rfl (fun c1 => ?_) (fun c1 => ?_)
    · skip
      refine W_skip ?_
      refine W_seq ?_
      refine W_block ?_
      refine W_seq ?_
      refine W_cut (fun σ' w' => w1 = w' ∧ σ' 0 = (v0) ∧ σ' 1 = (v1) ∧ σ' 5 = (.bool (true)) ∧ σ' 6 = (S (jtext (ns.take i) gs)) ∧ σ' 7 = (.int .i64 ((i : Int))) ∧ σ' 36 = (.bool (decide (0 < i) && nth gs (i - 1)))) ?_ ?_
      · refine W_reg ?_
        refine WO_pure (v := (.int .i64 ((i : Int)))) rfl rfl ?_
        refine WO_pure (v := (.bool (decide (0 < (i : Int))))) rfl rfl ?_
        refine WO_pure (v := (.bool (decide (0 < (i : Int))))) rfl rfl ?_
        refine WO_splitp 23 (p := 0 < (i : Int)) (by exact rfl) (fun c2 => ?_) (fun c2 => ?_)
        · skip
          refine WO_pure (v := (.int .i64 ((i : Int)))) rfl rfl ?_
          refine WO_sub (v := (i : Int) - 1) rfl rfl rfl (by simp only [kLo, kHi]; omega) ?_
          refine WO_pure (v := (v1)) rfl rfl ?_
          refine WO_lenrow (v := v1) (m := gs.length) (sz := 1) rfl rfl (h1.ext hb1) Try.underlying36 ?_
          refine WO_pure (v := (.bool (decide (((i : Int) - 1) < (gs.length : Int))))) rfl rfl ?_
          refine WO_pure (v := (.bool (decide (((i : Int) - 1) < (gs.length : Int))))) rfl rfl ?_
          refine WO_pure (v := (.bool (decide (((i : Int) - 1) < (gs.length : Int))))) rfl rfl ?_
          refine WO_splitp 30 (p := ((i : Int) - 1) < (gs.length : Int)) (by exact rfl) (fun c3 => ?_) (fun c3 => ?_)
          · skip
            refine WO_pure (v := (v1)) rfl rfl ?_
            refine WO_pure (v := (.int .i64 ((i : Int)))) rfl rfl ?_
            refine WO_sub (v := (i : Int) - 1) rfl rfl rfl (by simp only [kLo, kHi]; omega) ?_
            refine WO_idx1 (v := v1) (f := Value.bool) (l := gs) (i := (i - 1)) rfl rfl rfl (h1.ext hb1) Try.underlying36 (fun _ => by kernel_rfl) (by first | rfl | omega) (by first | omega | (simp; omega)) (fun b1 o1 x1 => ?_)
            refine WO_load (v := (.bool (nth gs (i - 1)))) rfl rfl Try.underlying4 rfl x1 ?_
            refine WO_pure (v := (.bool (nth gs (i - 1)))) rfl rfl ?_
            refine WO_nil ?_
            exact ⟨rfl, rfl, rfl, rfl, rfl, rfl, (by show ((.bool (nth gs (i - 1))) : Value) = (.bool (decide (0 < i) && nth gs (i - 1))); show Value.bool _ = Value.bool _; first | (simp_all; done) | (simp_all; omega) | (have := nth_out (l := gs) (i := i - 1) (by omega); simp_all; done) | (have := nth_out (l := gs) (i := i - 1) (by omega); simp_all; omega))⟩
          · skip
            refine WO_pass rfl ?_
            refine WO_pass rfl ?_
            refine WO_pass rfl ?_
            refine WO_pass rfl ?_
            refine WO_pass rfl ?_
            refine WO_pure (v := (.bool (false))) rfl rfl ?_
            refine WO_nil ?_
            exact ⟨rfl, rfl, rfl, rfl, rfl, rfl, (by show ((.bool (false)) : Value) = (.bool (decide (0 < i) && nth gs (i - 1))); show Value.bool _ = Value.bool _; first | (simp_all; done) | (simp_all; omega) | (have := nth_out (l := gs) (i := i - 1) (by omega); simp_all; done) | (have := nth_out (l := gs) (i := i - 1) (by omega); simp_all; omega))⟩
        · skip
          refine WO_pass rfl ?_
          refine WO_pass rfl ?_
          refine WO_pass rfl ?_
          refine WO_pass rfl ?_
          refine WO_pass rfl ?_
          refine WO_pure (v := (.bool (false))) rfl rfl ?_
          refine WO_pure (v := (.bool (false))) rfl rfl ?_
          refine WO_pass rfl ?_
          refine WO_pass rfl ?_
          refine WO_pass rfl ?_
          refine WO_pass rfl ?_
          refine WO_pass rfl ?_
          refine WO_pure (v := (.bool (false))) rfl rfl ?_
          refine WO_nil ?_
          exact ⟨rfl, rfl, rfl, rfl, rfl, rfl, (by show ((.bool (false)) : Value) = (.bool (decide (0 < i) && nth gs (i - 1))); show Value.bool _ = Value.bool _; first | (simp_all; done) | (simp_all; omega) | (have := nth_out (l := gs) (i := i - 1) (by omega); simp_all; done) | (have := nth_out (l := gs) (i := i - 1) (by omega); simp_all; omega))⟩
      · rintro σ1 _ ⟨rfl, h1_0, h1_1, h1_5, h1_6, h1_7, h1_36⟩
        refine W_anchor (d := 0) h1_0 (W_anchor (d := 1) h1_1 (W_anchor (d := 5) h1_5 (W_anchor (d := 6) h1_6 (W_anchor (d := 7) h1_7 (W_anchor (d := 36) h1_36 (?_))))))
        refine W_cond (t := decide (0 < i) && nth gs (i - 1)) rfl (fun c4 => ?_) (fun c4 => ?_)
        · skip
          refine W_reg ?_
          refine WO_pure (v := (S (jtext (ns.take i) gs))) rfl rfl ?_
          refine WO_scat (l1 := jtext (ns.take i) gs) (l2 := [62]) rfl rfl rfl (by first | omega | (simp; omega)) ?_
          refine WO_pure (v := (S ((jtext (ns.take i) gs) ++ ([62])))) rfl rfl ?_
          refine WO_nil ?_
          refine W_reg ?_
          have hbs := bulkS_step (l := ns) (i := i) (by omega)
          refine WO_pure (v := (S ((jtext (ns.take i) gs) ++ ([62])))) rfl rfl ?_
          refine WO_pure (v := (v0)) rfl rfl ?_
          refine WO_pure (v := (.int .i64 ((i : Int)))) rfl rfl ?_
          refine WO_idx1 (v := v0) (f := S) (l := ns) (i := i) rfl rfl rfl (h0.ext hb1) Try.underlying35 (fun _ => by kernel_rfl) (by first | rfl | omega) (by first | omega | (simp; omega)) (fun b2 o2 x2 => ?_)
          refine WO_load (v := (S (nth ns i))) rfl rfl Try.underlying9 rfl x2 ?_
          refine WO_scat (l1 := (jtext (ns.take i) gs) ++ ([62])) (l2 := nth ns i) rfl rfl rfl (by first | omega | (simp; omega)) ?_
          refine WO_eq 48 rfl (by have hh : 0 < i ∧ nth gs (i - 1) = true := (by simpa using c4); rw [← jt_step (gs := gs) hh.1 (by omega), hh.2]; rfl : _ = S (jtext (ns.take (i + 1)) gs)) ?_
          refine WO_pure (v := (S (jtext (ns.take (i + 1)) gs))) rfl rfl ?_
          refine WO_nil ?_
          refine W_reg ?_
          refine WO_pure (v := (.int .i64 ((i : Int)))) rfl rfl ?_
          refine WO_add (v := (i : Int) + 1) rfl rfl rfl (by simp only [kLo, kHi]; omega) ?_
          refine WO_pure (v := (.int .i64 ((i : Int) + 1))) rfl rfl ?_
          refine WO_nil ?_
          refine ⟨_, ?_, i + 1, rfl, rfl, rfl, rfl, rfl, rfl, ?_, ?_, rfl⟩
          · omega
          · omega
          · have := jt_len (gs := gs) (show i < ns.length by omega); omega
        · skip
          refine W_seq ?_
          refine W_reg ?_
          refine WO_pure (v := (.int .i64 ((i : Int)))) rfl rfl ?_
          refine WO_pure (v := (.bool (decide (0 < (i : Int))))) rfl rfl ?_
          refine WO_nil ?_
          refine W_if (p := 0 < (i : Int)) rfl (fun c5 => ?_) (fun c5 => ?_)
          · skip
            refine W_reg ?_
            refine WO_pure (v := (S (jtext (ns.take i) gs))) rfl rfl ?_
            refine WO_scat (l1 := jtext (ns.take i) gs) (l2 := [58]) rfl rfl rfl (by first | omega | (simp; omega)) ?_
            refine WO_pure (v := (S ((jtext (ns.take i) gs) ++ ([58])))) rfl rfl ?_
            refine WO_nil ?_
            refine W_reg ?_
            have hbs := bulkS_step (l := ns) (i := i) (by omega)
            refine WO_pure (v := (S ((jtext (ns.take i) gs) ++ ([58])))) rfl rfl ?_
            refine WO_pure (v := (v0)) rfl rfl ?_
            refine WO_pure (v := (.int .i64 ((i : Int)))) rfl rfl ?_
            refine WO_idx1 (v := v0) (f := S) (l := ns) (i := i) rfl rfl rfl (h0.ext hb1) Try.underlying35 (fun _ => by kernel_rfl) (by first | rfl | omega) (by first | omega | (simp; omega)) (fun b3 o3 x3 => ?_)
            refine WO_load (v := (S (nth ns i))) rfl rfl Try.underlying9 rfl x3 ?_
            refine WO_scat (l1 := (jtext (ns.take i) gs) ++ ([58])) (l2 := nth ns i) rfl rfl rfl (by first | omega | (simp; omega)) ?_
            refine WO_eq 48 rfl (by have hh : nth gs (i - 1) = false := (by simpa [show 0 < i by omega] using c4); rw [← jt_step (gs := gs) (by omega) (by omega), hh]; rfl : _ = S (jtext (ns.take (i + 1)) gs)) ?_
            refine WO_pure (v := (S (jtext (ns.take (i + 1)) gs))) rfl rfl ?_
            refine WO_nil ?_
            refine W_reg ?_
            refine WO_pure (v := (.int .i64 ((i : Int)))) rfl rfl ?_
            refine WO_add (v := (i : Int) + 1) rfl rfl rfl (by simp only [kLo, kHi]; omega) ?_
            refine WO_pure (v := (.int .i64 ((i : Int) + 1))) rfl rfl ?_
            refine WO_nil ?_
            refine ⟨_, ?_, i + 1, rfl, rfl, rfl, rfl, rfl, rfl, ?_, ?_, rfl⟩
            · omega
            · omega
            · have := jt_len (gs := gs) (show i < ns.length by omega); omega
          · skip
            refine W_skip ?_
            refine W_reg ?_
            have hbs := bulkS_step (l := ns) (i := i) (by omega)
            refine WO_pure (v := (S (jtext (ns.take i) gs))) rfl rfl ?_
            refine WO_pure (v := (v0)) rfl rfl ?_
            refine WO_pure (v := (.int .i64 ((i : Int)))) rfl rfl ?_
            refine WO_idx1 (v := v0) (f := S) (l := ns) (i := i) rfl rfl rfl (h0.ext hb1) Try.underlying35 (fun _ => by kernel_rfl) (by first | rfl | omega) (by first | omega | (simp; omega)) (fun b4 o4 x4 => ?_)
            refine WO_load (v := (S (nth ns i))) rfl rfl Try.underlying9 rfl x4 ?_
            refine WO_scat (l1 := jtext (ns.take i) gs) (l2 := nth ns i) rfl rfl rfl (by first | omega | (simp; omega)) ?_
            refine WO_eq 48 (v := S (jtext (ns.take i) gs ++ nth ns i)) rfl (by obtain rfl : i = 0 := (by omega); rw [jt_zero (by omega)] : _ = S (jtext (ns.take (i + 1)) gs)) ?_
            refine WO_pure (v := (S (jtext (ns.take (i + 1)) gs))) rfl rfl ?_
            refine WO_nil ?_
            refine W_reg ?_
            refine WO_pure (v := (.int .i64 ((i : Int)))) rfl rfl ?_
            refine WO_add (v := (i : Int) + 1) rfl rfl rfl (by simp only [kLo, kHi]; omega) ?_
            refine WO_pure (v := (.int .i64 ((i : Int) + 1))) rfl rfl ?_
            refine WO_nil ?_
            refine ⟨_, ?_, i + 1, rfl, rfl, rfl, rfl, rfl, rfl, ?_, ?_, rfl⟩
            · omega
            · omega
            · have := jt_len (gs := gs) (show i < ns.length by omega); omega
    · skip
      refine W_exit ?_
      refine W_seq ?_
      refine W_reg ?_
      refine WO_pure (v := S (jtext (ns.take i) gs)) rfl rfl ?_
      have hi : i = ns.length := by omega
      refine WO_eq 50 (v := S (jtext (ns.take i) gs)) rfl (by rw [hi, List.take_length] : _ = S (jtext ns gs)) ?_
      have hjl : (jtext ns gs).length ≤ 2097152 := by rw [hi, List.take_length] at f1_2; omega
      refine WO_call rfl (by exact en_9) (parse_any (jtext ns gs) _ (by omega)) ?_
      rintro _ w2 hP
      rcases hP with ⟨m, p, mb, hm, rfl, hT, hs, hb2⟩ | ⟨hm, rfl, hb2⟩
      have z_w2 := hb2.size
      · skip
        refine WO_pure rfl rfl ?_
        refine WO_pure (v := (.pointer (some ⟨p, 0, none⟩))) rfl rfl ?_
        refine WO_pure (v := (.int .i64 (0))) rfl rfl ?_
        refine WO_pure (v := (.pointer (some ⟨p, 0, none⟩))) rfl rfl ?_
        refine WO_pure (v := (.int .i64 (0))) rfl rfl ?_
        refine WO_nil ?_
        refine W_seq ?_
        refine W_cut (fun σ' w' => w2 = w' ∧ σ' 0 = (v0) ∧ σ' 1 = (v1) ∧ σ' 5 = (.bool (true)) ∧ σ' 8 = (.pointer (some ⟨p, 0, none⟩)) ∧ σ' 59 = (.bool (false))) ?_ ?_
        · refine W_reg ?_
          refine WO_pure (v := (.int .i64 (0))) rfl rfl ?_
          refine WO_pure (v := (.bool (false))) rfl rfl ?_
          refine WO_pure (v := (.bool (false))) rfl rfl ?_
          refine WO_pure (v := (.pointer (some ⟨p, 0, none⟩))) rfl rfl ?_
          refine WO_peql (a := (some ⟨p, 0, none⟩)) rfl rfl rfl Try.underlying23 ?_
          refine WO_pure (v := (.bool (false))) rfl rfl ?_
          refine WO_nil ?_
          exact ⟨rfl, rfl, rfl, rfl, rfl, rfl⟩
        · rintro σ2 _ ⟨rfl, h2_0, h2_1, h2_5, h2_8, h2_59⟩
          refine W_anchor (d := 0) h2_0 (W_anchor (d := 1) h2_1 (W_anchor (d := 5) h2_5 (W_anchor (d := 8) h2_8 (W_anchor (d := 59) h2_59 (?_)))))
          refine W_false rfl ?_
          refine W_skip ?_
          refine W_seq ?_
          refine W_seq ?_
          refine W_reg ?_
          refine WO_pure (v := (.int .i64 (0))) rfl rfl ?_
          refine WO_nil ?_
          refine W_block ?_
          refine W_loop (fun g σ' w' => ∃ (i : Nat), w2 = w' ∧ σ' 0 = (v0) ∧ σ' 1 = (v1) ∧ σ' 5 = (.bool (true)) ∧ σ' 8 = (.pointer (some ⟨p, 0, none⟩)) ∧ σ' 10 = (.int .i64 ((i : Int))) ∧ i ≤ ns.length ∧ (∀ j, j < i → (nth ns j).all (fun b => !isSep b) = true) ∧ g = ns.length - i) ?_ ?_
          · refine ⟨_, 0, rfl, rfl, rfl, rfl, rfl, rfl, ?_, ?_, rfl⟩
            · omega
            · intro j hj; omega
          · rintro g σl2 _ ⟨i, rfl, l2_0, l2_1, l2_5, l2_8, l2_10, f2_1, f2_2, rfl⟩
            refine W_anchor (d := 0) l2_0 (W_anchor (d := 1) l2_1 (W_anchor (d := 5) l2_5 (W_anchor (d := 8) l2_8 (W_anchor (d := 10) l2_10 (?_)))))
            refine W_seq ?_
            refine W_seq ?_
            refine W_reg ?_
            refine WO_pure (v := (.int .i64 ((i : Int)))) rfl rfl ?_
            refine WO_pure (v := (v0)) rfl rfl ?_
            refine WO_lenrow (v := v0) (m := ns.length) (sz := 1) rfl rfl ((h0.ext hb1).ext hb2) Try.underlying35 ?_
            refine WO_pure (v := (.bool (decide ((i : Int) < (ns.length : Int))))) rfl rfl ?_
            refine WO_nil ?_
            refine W_if (p := (i : Int) < (ns.length : Int)) rfl (fun c6 => ?_) (fun c6 => ?_)
            · skip
              refine W_skip ?_
              refine W_seq ?_
              refine W_block ?_
              refine W_seq ?_
              refine W_reg ?_
              refine WO_pure (v := (.int .i64 (0))) rfl rfl ?_
              refine WO_nil ?_
              refine W_block ?_
              refine W_loop (fun g σ' w' => ∃ (k : Nat), w2 = w' ∧ σ' 0 = (v0) ∧ σ' 1 = (v1) ∧ σ' 5 = (.bool (true)) ∧ σ' 8 = (.pointer (some ⟨p, 0, none⟩)) ∧ σ' 10 = (.int .i64 ((i : Int))) ∧ σ' 11 = (.int .i64 ((k : Int))) ∧ k ≤ (nth ns i).length ∧ ((nth ns i).take k).all (fun b => !isSep b) = true ∧ g = (nth ns i).length - k) ?_ ?_
              · refine ⟨_, 0, rfl, rfl, rfl, rfl, rfl, rfl, rfl, ?_, ?_, rfl⟩
                · omega
                · rfl
              · rintro g σl3 _ ⟨k, rfl, l3_0, l3_1, l3_5, l3_8, l3_10, l3_11, f3_1, f3_2, rfl⟩
                refine W_anchor (d := 0) l3_0 (W_anchor (d := 1) l3_1 (W_anchor (d := 5) l3_5 (W_anchor (d := 8) l3_8 (W_anchor (d := 10) l3_10 (W_anchor (d := 11) l3_11 (?_))))))
                refine W_seq ?_
                refine W_seq ?_
                refine W_reg ?_
                have hlk := nth_len_le (l := ns) (i := i) (by omega)
                refine WO_pure (v := (.int .i64 ((k : Int)))) rfl rfl ?_
                refine WO_pure (v := (v0)) rfl rfl ?_
                refine WO_pure (v := (.int .i64 ((i : Int)))) rfl rfl ?_
                refine WO_idx1 (v := v0) (f := S) (l := ns) (i := i) rfl rfl rfl ((h0.ext hb1).ext hb2) Try.underlying35 (fun _ => by kernel_rfl) (by first | rfl | omega) (by first | omega | (simp; omega)) (fun b5 o5 x5 => ?_)
                refine WO_load (v := (S (nth ns i))) rfl rfl Try.underlying9 rfl x5 ?_
                refine WO_slen (l := nth ns i) rfl rfl Try.underlying9 ?_
                refine WO_pure (v := (.bool (decide ((k : Int) < ((nth ns i).length : Int))))) rfl rfl ?_
                refine WO_nil ?_
                refine W_if (p := (k : Int) < ((nth ns i).length : Int)) rfl (fun c7 => ?_) (fun c7 => ?_)
                · skip
                  refine W_skip ?_
                  refine W_seq ?_
                  refine W_block ?_
                  refine W_cut (fun σ' w' => w2 = w' ∧ σ' 0 = (v0) ∧ σ' 1 = (v1) ∧ σ' 5 = (.bool (true)) ∧ σ' 8 = (.pointer (some ⟨p, 0, none⟩)) ∧ σ' 10 = (.int .i64 ((i : Int))) ∧ σ' 11 = (.int .i64 ((k : Int))) ∧ σ' 95 = (.bool (isSep (byteAt (nth ns i) k)))) ?_ ?_
                  · refine W_reg ?_
                    refine WO_pure (v := (v0)) rfl rfl ?_
                    refine WO_pure (v := (.int .i64 ((i : Int)))) rfl rfl ?_
                    refine WO_idx1 (v := v0) (f := S) (l := ns) (i := i) rfl rfl rfl ((h0.ext hb1).ext hb2) Try.underlying35 (fun _ => by kernel_rfl) (by first | rfl | omega) (by first | omega | (simp; omega)) (fun b6 o6 x6 => ?_)
                    refine WO_load (v := (S (nth ns i))) rfl rfl Try.underlying9 rfl x6 ?_
                    refine WO_pure (v := (.int .i64 ((k : Int)))) rfl rfl ?_
                    refine WO_sidx (l := nth ns i) (j := k) rfl rfl rfl Try.underlying9 (by first | rfl | omega) (by first | omega | (simp; omega)) ?_
                    refine WO_pure (v := (.bool (decide (((byteAt (nth ns i) k).toNat : Int) = 62)))) rfl rfl ?_
                    refine WO_pure (v := (.bool (decide (((byteAt (nth ns i) k).toNat : Int) = 62)))) rfl rfl ?_
                    refine WO_splitp 87 (p := ((byteAt (nth ns i) k).toNat : Int) = 62) (by exact rfl) (fun c8 => ?_) (fun c8 => ?_)
                    · skip
                      refine WO_pass rfl ?_
                      refine WO_pass rfl ?_
                      refine WO_pass rfl ?_
                      refine WO_pass rfl ?_
                      refine WO_pass rfl ?_
                      refine WO_pass rfl ?_
                      refine WO_pass rfl ?_
                      refine WO_pure (v := (.bool (true))) rfl rfl ?_
                      refine WO_nil ?_
                      exact ⟨rfl, rfl, rfl, rfl, rfl, rfl, rfl, (by show ((.bool (true)) : Value) = (.bool (isSep (byteAt (nth ns i) k))); show Value.bool _ = Value.bool _; rw [Value.bool.injEq, Bool.eq_iff_iff]; simp_all [isSep, ← UInt8.toNat_inj]; try omega)⟩
                    · skip
                      refine WO_pure (v := (v0)) rfl rfl ?_
                      refine WO_pure (v := (.int .i64 ((i : Int)))) rfl rfl ?_
                      refine WO_idx1 (v := v0) (f := S) (l := ns) (i := i) rfl rfl rfl ((h0.ext hb1).ext hb2) Try.underlying35 (fun _ => by kernel_rfl) (by first | rfl | omega) (by first | omega | (simp; omega)) (fun b7 o7 x7 => ?_)
                      refine WO_load (v := (S (nth ns i))) rfl rfl Try.underlying9 rfl x7 ?_
                      refine WO_pure (v := (.int .i64 ((k : Int)))) rfl rfl ?_
                      refine WO_sidx (l := nth ns i) (j := k) rfl rfl rfl Try.underlying9 (by first | rfl | omega) (by first | omega | (simp; omega)) ?_
                      refine WO_pure (v := (.bool (decide (((byteAt (nth ns i) k).toNat : Int) = 58)))) rfl rfl ?_
                      refine WO_pure (v := (.bool (decide (((byteAt (nth ns i) k).toNat : Int) = 58)))) rfl rfl ?_
                      refine WO_nil ?_
                      exact ⟨rfl, rfl, rfl, rfl, rfl, rfl, rfl, (by show ((.bool (decide (((byteAt (nth ns i) k).toNat : Int) = 58))) : Value) = (.bool (isSep (byteAt (nth ns i) k))); show Value.bool _ = Value.bool _; rw [Value.bool.injEq, Bool.eq_iff_iff]; simp_all [isSep, ← UInt8.toNat_inj]; try omega)⟩
                  · rintro σ3 _ ⟨rfl, h3_0, h3_1, h3_5, h3_8, h3_10, h3_11, h3_95⟩
                    refine W_anchor (d := 0) h3_0 (W_anchor (d := 1) h3_1 (W_anchor (d := 5) h3_5 (W_anchor (d := 8) h3_8 (W_anchor (d := 10) h3_10 (W_anchor (d := 11) h3_11 (W_anchor (d := 95) h3_95 (?_)))))))
                    refine W_cond (t := isSep (byteAt (nth ns i) k)) rfl (fun c9 => ?_) (fun c9 => ?_)
                    · skip
                      refine W_seq ?_
                      refine W_reg ?_
                      refine WO_pure (v := (.bool (true))) rfl rfl ?_
                      refine WO_pure (v := (.bool (true))) rfl rfl ?_
                      refine WO_nil ?_
                      refine W_ret ?_
                      refine body_ret1 rfl (v0 := (.bool (true))) rfl ?_
                      have hbel := (below_ext (below_ext (Below.refl w.heap.size w) hb1) hb2)
                      exact ⟨rfl, hbel⟩
                    · skip
                      refine W_skip ?_
                      refine W_reg ?_
                      refine WO_pure (v := (.int .i64 ((k : Int)))) rfl rfl ?_
                      refine WO_add (v := (k : Int) + 1) rfl rfl rfl (by simp only [kLo, kHi]; omega) ?_
                      refine WO_pure (v := (.int .i64 ((k : Int) + 1))) rfl rfl ?_
                      refine WO_nil ?_
                      refine ⟨_, ?_, k + 1, rfl, rfl, rfl, rfl, rfl, rfl, rfl, ?_, ?_, rfl⟩
                      · omega
                      · omega
                      · exact all_take_snoc (by omega) f3_2 (by simpa using c9)
                · skip
                  refine W_exit ?_
                  refine W_reg ?_
                  refine WO_pure (v := (.int .i64 ((i : Int)))) rfl rfl ?_
                  refine WO_add (v := (i : Int) + 1) rfl rfl rfl (by simp only [kLo, kHi]; omega) ?_
                  refine WO_pure (v := (.int .i64 ((i : Int) + 1))) rfl rfl ?_
                  refine WO_nil ?_
                  refine ⟨_, ?_, i + 1, rfl, rfl, rfl, rfl, rfl, rfl, ?_, ?_, rfl⟩
                  · omega
                  · omega
                  · intro j hj
                    by_cases hji : j < i
                    · exact f2_2 j hji
                    · obtain rfl : j = i := by omega
                      rw [List.take_of_length_le (by omega)] at f3_2; exact f3_2
            · skip
              refine W_exit ?_
              refine W_seq ?_
              refine W_reg ?_
              have hns : ∀ j, j < ns.length → (nth ns j).all (fun b => !isSep b) = true := fun j hj => f2_2 j (by omega)
              refine WO_pure (v := (.int .i64 (2))) rfl rfl ?_
              refine WO_nil ?_
              refine W_seq ?_
              refine W_seq ?_
              refine W_reg ?_
              refine WO_pure (v := (.int .i64 (0))) rfl rfl ?_
              refine WO_nil ?_
              refine W_block ?_
              refine W_loop (fun g σ' w' => ∃ (i : Nat), w2 = w' ∧ σ' 0 = (v0) ∧ σ' 1 = (v1) ∧ σ' 5 = (.bool (true)) ∧ σ' 8 = (.pointer (some ⟨p, 0, none⟩)) ∧ σ' 12 = (.int .i64 ((sAt 2 gs (i - 1) : Int))) ∧ σ' 13 = (.int .i64 ((i : Int))) ∧ i ≤ ns.length ∧ g = ns.length - i) ?_ ?_
              · refine ⟨_, 0, rfl, rfl, rfl, rfl, rfl, rfl, rfl, ?_, rfl⟩
                all_goals first | rfl | omega | simp
              · rintro g σl4 _ ⟨i, rfl, l4_0, l4_1, l4_5, l4_8, l4_12, l4_13, f4_1, rfl⟩
                refine W_anchor (d := 0) l4_0 (W_anchor (d := 1) l4_1 (W_anchor (d := 5) l4_5 (W_anchor (d := 8) l4_8 (W_anchor (d := 12) l4_12 (W_anchor (d := 13) l4_13 (?_))))))
                refine W_seq ?_
                refine W_seq ?_
                refine W_reg ?_
                refine WO_pure (v := (.int .i64 ((i : Int)))) rfl rfl ?_
                refine WO_pure (v := (v0)) rfl rfl ?_
                refine WO_lenrow (v := v0) (m := ns.length) (sz := 1) rfl rfl ((h0.ext hb1).ext hb2) Try.underlying35 ?_
                refine WO_pure (v := (.bool (decide ((i : Int) < (ns.length : Int))))) rfl rfl ?_
                refine WO_nil ?_
                refine W_if (p := (i : Int) < (ns.length : Int)) rfl (fun c10 => ?_) (fun c10 => ?_)
                · skip
                  refine W_skip ?_
                  refine W_cut (fun σ' w' => w2 = w' ∧ σ' 0 = (v0) ∧ σ' 1 = (v1) ∧ σ' 5 = (.bool (true)) ∧ σ' 8 = (.pointer (some ⟨p, 0, none⟩)) ∧ σ' 12 = (.int .i64 ((sAt 2 gs i : Int))) ∧ σ' 13 = (.int .i64 ((i : Int)))) ?_ ?_
                  · skip
                    refine W_block ?_
                    refine W_cut (fun σ' w' => w2 = w' ∧ σ' 0 = (v0) ∧ σ' 1 = (v1) ∧ σ' 5 = (.bool (true)) ∧ σ' 8 = (.pointer (some ⟨p, 0, none⟩)) ∧ σ' 12 = (.int .i64 ((sAt 2 gs i : Int))) ∧ σ' 13 = (.int .i64 ((i : Int)))) ?_ ?_
                    · skip
                      refine W_cut (fun σ' w' => w2 = w' ∧ σ' 0 = (v0) ∧ σ' 1 = (v1) ∧ σ' 5 = (.bool (true)) ∧ σ' 8 = (.pointer (some ⟨p, 0, none⟩)) ∧ σ' 12 = (.int .i64 ((sAt 2 gs (i - 1) : Int))) ∧ σ' 13 = (.int .i64 ((i : Int))) ∧ σ' 118 = (.bool (decide (0 < i) && nth gs (i - 1)))) ?_ ?_
                      · refine W_reg ?_
                        refine WO_pure (v := (.int .i64 ((i : Int)))) rfl rfl ?_
                        refine WO_pure (v := (.bool (decide (0 < (i : Int))))) rfl rfl ?_
                        refine WO_pure (v := (.bool (decide (0 < (i : Int))))) rfl rfl ?_
                        refine WO_splitp 105 (p := 0 < (i : Int)) (by exact rfl) (fun c11 => ?_) (fun c11 => ?_)
                        · skip
                          refine WO_pure (v := (.int .i64 ((i : Int)))) rfl rfl ?_
                          refine WO_sub (v := (i : Int) - 1) rfl rfl rfl (by simp only [kLo, kHi]; omega) ?_
                          refine WO_pure (v := (v1)) rfl rfl ?_
                          refine WO_lenrow (v := v1) (m := gs.length) (sz := 1) rfl rfl ((h1.ext hb1).ext hb2) Try.underlying36 ?_
                          refine WO_pure (v := (.bool (decide (((i : Int) - 1) < (gs.length : Int))))) rfl rfl ?_
                          refine WO_pure (v := (.bool (decide (((i : Int) - 1) < (gs.length : Int))))) rfl rfl ?_
                          refine WO_pure (v := (.bool (decide (((i : Int) - 1) < (gs.length : Int))))) rfl rfl ?_
                          refine WO_splitp 112 (p := ((i : Int) - 1) < (gs.length : Int)) (by exact rfl) (fun c12 => ?_) (fun c12 => ?_)
                          · skip
                            refine WO_pure (v := (v1)) rfl rfl ?_
                            refine WO_pure (v := (.int .i64 ((i : Int)))) rfl rfl ?_
                            refine WO_sub (v := (i : Int) - 1) rfl rfl rfl (by simp only [kLo, kHi]; omega) ?_
                            refine WO_idx1 (v := v1) (f := Value.bool) (l := gs) (i := (i - 1)) rfl rfl rfl ((h1.ext hb1).ext hb2) Try.underlying36 (fun _ => by kernel_rfl) (by first | rfl | omega) (by first | omega | (simp; omega)) (fun b8 o8 x8 => ?_)
                            refine WO_load (v := (.bool (nth gs (i - 1)))) rfl rfl Try.underlying4 rfl x8 ?_
                            refine WO_pure (v := (.bool (nth gs (i - 1)))) rfl rfl ?_
                            refine WO_nil ?_
                            exact ⟨rfl, rfl, rfl, rfl, rfl, rfl, rfl, (by show ((.bool (nth gs (i - 1))) : Value) = (.bool (decide (0 < i) && nth gs (i - 1))); show Value.bool _ = Value.bool _; first | (simp_all; done) | (simp_all; omega) | (have := nth_out (l := gs) (i := i - 1) (by omega); simp_all; done) | (have := nth_out (l := gs) (i := i - 1) (by omega); simp_all; omega))⟩
                          · skip
                            refine WO_pass rfl ?_
                            refine WO_pass rfl ?_
                            refine WO_pass rfl ?_
                            refine WO_pass rfl ?_
                            refine WO_pass rfl ?_
                            refine WO_pure (v := (.bool (false))) rfl rfl ?_
                            refine WO_nil ?_
                            exact ⟨rfl, rfl, rfl, rfl, rfl, rfl, rfl, (by show ((.bool (false)) : Value) = (.bool (decide (0 < i) && nth gs (i - 1))); show Value.bool _ = Value.bool _; first | (simp_all; done) | (simp_all; omega) | (have := nth_out (l := gs) (i := i - 1) (by omega); simp_all; done) | (have := nth_out (l := gs) (i := i - 1) (by omega); simp_all; omega))⟩
                        · skip
                          refine WO_pass rfl ?_
                          refine WO_pass rfl ?_
                          refine WO_pass rfl ?_
                          refine WO_pass rfl ?_
                          refine WO_pass rfl ?_
                          refine WO_pure (v := (.bool (false))) rfl rfl ?_
                          refine WO_pure (v := (.bool (false))) rfl rfl ?_
                          refine WO_pass rfl ?_
                          refine WO_pass rfl ?_
                          refine WO_pass rfl ?_
                          refine WO_pass rfl ?_
                          refine WO_pass rfl ?_
                          refine WO_pure (v := (.bool (false))) rfl rfl ?_
                          refine WO_nil ?_
                          exact ⟨rfl, rfl, rfl, rfl, rfl, rfl, rfl, (by show ((.bool (false)) : Value) = (.bool (decide (0 < i) && nth gs (i - 1))); show Value.bool _ = Value.bool _; first | (simp_all; done) | (simp_all; omega) | (have := nth_out (l := gs) (i := i - 1) (by omega); simp_all; done) | (have := nth_out (l := gs) (i := i - 1) (by omega); simp_all; omega))⟩
                      · rintro σ6 _ ⟨rfl, h6_0, h6_1, h6_5, h6_8, h6_12, h6_13, h6_118⟩
                        refine W_anchor (d := 0) h6_0 (W_anchor (d := 1) h6_1 (W_anchor (d := 5) h6_5 (W_anchor (d := 8) h6_8 (W_anchor (d := 12) h6_12 (W_anchor (d := 13) h6_13 (W_anchor (d := 118) h6_118 (?_)))))))
                        refine W_cond (t := decide (0 < i) && nth gs (i - 1)) rfl (fun c13 => ?_) (fun c13 => ?_)
                        · skip
                          refine W_reg ?_
                          have hsa := sAt_le 2 gs (i - 1)
                          refine WO_pure (v := (.int .i64 ((sAt 2 gs (i - 1) : Int)))) rfl rfl ?_
                          refine WO_add (v := (sAt 2 gs (i - 1) : Int) + 1) rfl rfl rfl (by simp only [kLo, kHi]; omega) ?_
                          refine WO_pure (v := (.int .i64 ((sAt 2 gs (i - 1) : Int) + 1))) rfl rfl ?_
                          refine WO_nil ?_
                          refine ⟨rfl, rfl, rfl, rfl, rfl, ?_, rfl⟩
                          have hh : 0 < i ∧ nth gs (i - 1) = true := (by simpa using c13)
                          show Value.int .i64 ((sAt 2 gs (i - 1) : Int) + 1) = _
                          rw [sAt_up hh.1, if_pos hh.2]; rfl
                        · skip
                          refine W_skip ?_
                          refine ⟨rfl, rfl, rfl, rfl, rfl, ?_, rfl⟩
                          show Value.int .i64 (sAt 2 gs (i - 1) : Int) = _
                          by_cases h : 0 < i
                          · rw [sAt_up h, if_neg (by simpa [h] using c13)]
                          · obtain rfl : i = 0 := by omega
                            rfl
                    · rintro σ5 _ ⟨rfl, h5_0, h5_1, h5_5, h5_8, h5_12, h5_13⟩
                      refine W_anchor (d := 0) h5_0 (W_anchor (d := 1) h5_1 (W_anchor (d := 5) h5_5 (W_anchor (d := 8) h5_8 (W_anchor (d := 12) h5_12 (W_anchor (d := 13) h5_13 (?_))))))
                      refine W_seq ?_
                      refine W_reg ?_
                      refine WO_pure (v := (.pointer (some ⟨p, 0, none⟩))) rfl rfl ?_
                      refine WO_pure (v := (v0)) rfl rfl ?_
                      refine WO_pure (v := (.int .i64 ((i : Int)))) rfl rfl ?_
                      refine WO_idx1 (v := v0) (f := S) (l := ns) (i := i) rfl rfl rfl ((h0.ext hb1).ext hb2) Try.underlying35 (fun _ => by kernel_rfl) (by first | rfl | omega) (by first | omega | (simp; omega)) (fun b9 o9 x9 => ?_)
                      refine WO_load (v := (S (nth ns i))) rfl rfl Try.underlying9 rfl x9 ?_
                      refine WO_call rfl (by exact en_11) (score_any p mb m _ _ hT hs) ?_
                      rintro _ _ ⟨rfl, rfl⟩
                      refine WO_pure (v := (.int .i64 ((sAt 2 gs i : Int)))) rfl rfl ?_
                      refine WO_pure (v := (.bool (!decide ((tscore m (nth ns i) : Int) = (sAt 2 gs i : Int))))) rfl rfl ?_
                      refine WO_nil ?_
                      refine W_cond (t := !decide ((tscore m (nth ns i) : Int) = (sAt 2 gs i : Int))) rfl (fun c14 => ?_) (fun c14 => ?_)
                      · skip
                        rw [archRows_law hns hm i (by omega)] at c14; simp at c14
                      · skip
                        refine W_skip ?_
                        refine ⟨rfl, rfl, rfl, rfl, rfl, rfl, rfl⟩
                        all_goals first | rfl | assumption | omega
                  · rintro σ4 _ ⟨rfl, h4_0, h4_1, h4_5, h4_8, h4_12, h4_13⟩
                    refine W_anchor (d := 0) h4_0 (W_anchor (d := 1) h4_1 (W_anchor (d := 5) h4_5 (W_anchor (d := 8) h4_8 (W_anchor (d := 12) h4_12 (W_anchor (d := 13) h4_13 (?_))))))
                    refine W_reg ?_
                    refine WO_pure (v := (.int .i64 ((i : Int)))) rfl rfl ?_
                    refine WO_add (v := (i : Int) + 1) rfl rfl rfl (by simp only [kLo, kHi]; omega) ?_
                    refine WO_pure (v := (.int .i64 ((i : Int) + 1))) rfl rfl ?_
                    refine WO_nil ?_
                    refine ⟨_, ?_, i + 1, rfl, rfl, rfl, rfl, rfl, rfl, rfl, ?_, rfl⟩
                    all_goals first | omega | assumption
                · skip
                  refine W_exit ?_
                  refine W_seq ?_
                  refine W_reg ?_
                  refine WO_pure (v := (.bool (true))) rfl rfl ?_
                  refine WO_pure (v := (.bool (true))) rfl rfl ?_
                  refine WO_nil ?_
                  refine W_ret ?_
                  refine body_ret1 rfl (v0 := (.bool (true))) rfl ?_
                  have hbel := (below_ext (below_ext (Below.refl w.heap.size w) hb1) hb2)
                  exact ⟨rfl, hbel⟩
      · skip
        refine WO_pure rfl rfl ?_
        refine WO_pure (v := (.pointer none)) rfl rfl ?_
        refine WO_pure (v := (.int .i64 (40))) rfl rfl ?_
        refine WO_pure (v := (.pointer none)) rfl rfl ?_
        refine WO_pure (v := (.int .i64 (40))) rfl rfl ?_
        refine WO_nil ?_
        refine W_seq ?_
        refine W_cut (fun σ' w' => w2 = w' ∧ σ' 0 = (v0) ∧ σ' 1 = (v1) ∧ σ' 5 = (.bool (true)) ∧ σ' 8 = (.pointer none) ∧ σ' 59 = (.bool (true))) ?_ ?_
        · refine W_reg ?_
          refine WO_pure (v := (.int .i64 (40))) rfl rfl ?_
          refine WO_pure (v := (.bool (true))) rfl rfl ?_
          refine WO_pure (v := (.bool (true))) rfl rfl ?_
          refine WO_pass rfl ?_
          refine WO_pass rfl ?_
          refine WO_pure (v := (.bool (true))) rfl rfl ?_
          refine WO_nil ?_
          exact ⟨rfl, rfl, rfl, rfl, rfl, rfl⟩
        · rintro σ7 _ ⟨rfl, h7_0, h7_1, h7_5, h7_8, h7_59⟩
          refine W_anchor (d := 0) h7_0 (W_anchor (d := 1) h7_1 (W_anchor (d := 5) h7_5 (W_anchor (d := 8) h7_8 (W_anchor (d := 59) h7_59 (?_)))))
          refine W_true rfl ?_
          refine W_cut (fun σ' w' => w2 = w' ∧ σ' 4 = (.bool (true))) ?_ ?_
          · refine W_reg ?_
            refine WO_pure (v := (.bool (true))) rfl rfl ?_
            refine WO_pure (v := (.bool (true))) rfl rfl ?_
            refine WO_pure (v := (.pointer none)) rfl rfl ?_
            refine WO_peql (a := none) rfl rfl rfl Try.underlying23 ?_
            refine WO_pure (v := (.bool (true))) rfl rfl ?_
            refine WO_pure (v := (.bool (true))) rfl rfl ?_
            refine WO_nil ?_
            exact ⟨rfl, rfl⟩
          · rintro σ8 _ ⟨rfl, h8_4⟩
            refine W_anchor (d := 4) h8_4 (?_)
            refine W_ret ?_
            refine body_ret1 rfl (v0 := (.bool (true))) rfl ?_
            have hbel := (below_ext (below_ext (Below.refl w.heap.size w) hb1) hb2)
            exact ⟨rfl, hbel⟩

end Go.Proofs.Ytcnmbdabnppbeaa
