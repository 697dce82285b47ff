/- strings.IndexAny at the two separators of a table of architectures, for every string. No condition. -/
import Derived.Test.YtcnmbdabnppbeaaArch1
import Derived.Test.YtcnmbdabnppbeaaSlices
import Derived.Test.YtcnmbdabnppbeaaShelf
namespace Go.Proofs.Ytcnmbdabnppbeaa
open Go Go.RowKit

theorem en_27 : Enters Try.prog 27 := enters_of Try.func27 (by kernel_rfl) rfl
theorem en_26 : Enters Try.prog 26 := enters_of Try.func26 (by kernel_rfl) rfl
theorem en_19 : Enters Try.prog 19 := enters_of Try.func19 (by kernel_rfl) rfl
theorem en_15 : Enters Try.prog 15 := enters_of Try.func15 (by kernel_rfl) rfl
theorem en_20 : Enters Try.prog 20 := enters_of Try.func20 (by kernel_rfl) rfl
theorem en_21 : Enters Try.prog 21 := enters_of Try.func21 (by kernel_rfl) rfl
theorem en_22 : Enters Try.prog 22 := enters_of Try.func22 (by kernel_rfl) rfl


theorem encode_high {r : Int} (h : 128 ≤ r) (hv : Utf8.valid r = true) : ∃ rs : List UInt8, Utf8.encode r = ⟨rs.toArray⟩ ∧ 2 ≤ rs.length ∧ rs.length ≤ 4 ∧ ∀ j, j < rs.length → 128 ≤ (byteAt rs j).toNat := by
  have hb : ∀ n : Nat, 128 ≤ n → n < 256 → 128 ≤ (UInt8.ofNat n).toNat := fun n h1 h2 => by simp [UInt8.toNat_ofNat, Nat.mod_eq_of_lt h2]; exact h1
  have hr : 128 ≤ r.toNat := by omega
  have hm : r.toNat ≤ 1114111 := by
    simp only [Utf8.valid, Bool.or_eq_true, Bool.and_eq_true, decide_eq_true_eq] at hv; omega
  unfold Utf8.encode
  simp only [hv, if_true]
  rw [if_neg (by omega)]
  split
  · refine ⟨_, rfl, by simp, by simp, fun j hj => ?_⟩
    simp only [List.length_cons, List.length_nil] at hj
    match j with
    | 0 => exact hb _ (by omega) (by omega)
    | 1 => exact hb _ (by omega) (by omega)
  · split
    · refine ⟨_, rfl, by simp, by simp, fun j hj => ?_⟩
      simp only [List.length_cons, List.length_nil] at hj
      match j with
      | 0 => exact hb _ (by omega) (by omega)
      | 1 => exact hb _ (by omega) (by omega)
      | 2 => exact hb _ (by omega) (by omega)
    · refine ⟨_, rfl, by simp, by simp, fun j hj => ?_⟩
      simp only [List.length_cons, List.length_nil] at hj
      match j with
      | 0 => exact hb _ (by omega) (by omega)
      | 1 => exact hb _ (by omega) (by omega)
      | 2 => exact hb _ (by omega) (by omega)
      | 3 => exact hb _ (by omega) (by omega)
theorem indexByte_none (l : List UInt8) (c : UInt8) (h : ∀ b ∈ l, b ≠ c) : Lib.indexByte l c = -1 := by
  induction l with
  | nil => rfl
  | cons b l ih =>
    have h1 : (b == c) = false := by simpa using h b (by simp)
    simp [Lib.indexByte, h1, ih (fun x hx => h x (by simp [hx]))]

set_option maxHeartbeats 400000 in
set_option maxRecDepth 100000 in
theorem validRune_any (r : Int) (w : World) :
    Calls Try.prog 27 #[(.int .i32 (r))] w (Ret fun v w' => v = .bool (Utf8.valid r) ∧ w = w') := by
  refine calls_W Try.func27 rfl Try.ntmps27 ?_
  refine W_seq ?_
  refine W_reg ?_
  refine WO_pure (v := (.bool (false))) rfl rfl ?_
  refine WO_nil ?_
  refine W_seq ?_
  refine W_block ?_
  refine W_cut (fun σ' w' => w = w' ∧ σ' 0 = (.int .i32 (r)) ∧ σ' 3 = (.bool ((decide (0 ≤ r)) && (decide (r < 55296))))) ?_ ?_
  · refine W_reg ?_
    refine WO_pure (v := (.int .i32 (r))) rfl rfl ?_
    refine WO_pure (v := (.bool (decide (0 ≤ r)))) rfl rfl ?_
    refine WO_pure (v := (.bool (decide (0 ≤ r)))) rfl rfl ?_
    refine WO_splitp 6 (p := 0 ≤ r) (by exact rfl) (fun c1 => ?_) (fun c1 => ?_)
    · skip
      refine WO_pure (v := (.int .i32 (r))) rfl rfl ?_
      refine WO_pure (v := (.bool (decide (r < 55296)))) rfl rfl ?_
      refine WO_pure (v := (.bool (decide (r < 55296)))) rfl rfl ?_
      refine WO_pure (v := (.bool (decide (r < 55296)))) rfl rfl ?_
      refine WO_nil ?_
      exact ⟨rfl, rfl, (by show ((.bool (decide (r < 55296))) : Value) = (.bool ((decide (0 ≤ r)) && (decide (r < 55296)))); first | (simp [c1]; done) | (simp [c1]; omega) | (simp_all; done) | (simp_all; omega))⟩
    · skip
      refine WO_pass rfl ?_
      refine WO_pass rfl ?_
      refine WO_pure (v := (.bool (false))) rfl rfl ?_
      refine WO_pure (v := (.bool (false))) rfl rfl ?_
      refine WO_nil ?_
      exact ⟨rfl, rfl, (by show ((.bool (false)) : Value) = (.bool ((decide (0 ≤ r)) && (decide (r < 55296)))); first | (simp [c1]; done) | (simp [c1]; omega) | (simp_all; done) | (simp_all; omega))⟩
  · rintro σ1 _ ⟨rfl, h1_0, h1_3⟩
    refine W_anchor (d := 0) h1_0 (W_anchor (d := 3) h1_3 (?_))
    refine W_cond (t := (decide (0 ≤ r)) && (decide (r < 55296))) rfl (fun c2 => ?_) (fun c2 => ?_)
    · skip
      refine W_seq ?_
      refine W_reg ?_
      refine WO_pure (v := (.bool (true))) rfl rfl ?_
      refine WO_nil ?_
      refine W_ret ?_
      refine body_ret1 rfl (v0 := (.bool (true))) rfl ?_
      exact ⟨by simp [Utf8.valid]; simp_all; try omega, rfl⟩
    · skip
      refine W_cut (fun σ' w' => w = w' ∧ σ' 10 = (.bool ((decide (57343 < r)) && (decide (r ≤ 1114111))))) ?_ ?_
      · refine W_reg ?_
        refine WO_pure (v := (.int .i32 (r))) rfl rfl ?_
        refine WO_pure (v := (.bool (decide (57343 < r)))) rfl rfl ?_
        refine WO_pure (v := (.bool (decide (57343 < r)))) rfl rfl ?_
        refine WO_splitp 13 (p := 57343 < r) (by exact rfl) (fun c3 => ?_) (fun c3 => ?_)
        · skip
          refine WO_pure (v := (.int .i32 (r))) rfl rfl ?_
          refine WO_pure (v := (.bool (decide (r ≤ 1114111)))) rfl rfl ?_
          refine WO_pure (v := (.bool (decide (r ≤ 1114111)))) rfl rfl ?_
          refine WO_pure (v := (.bool (decide (r ≤ 1114111)))) rfl rfl ?_
          refine WO_nil ?_
          exact ⟨rfl, (by show ((.bool (decide (r ≤ 1114111))) : Value) = (.bool ((decide (57343 < r)) && (decide (r ≤ 1114111)))); first | (simp [c3]; done) | (simp [c3]; omega) | (simp_all; done) | (simp_all; omega))⟩
        · skip
          refine WO_pass rfl ?_
          refine WO_pass rfl ?_
          refine WO_pure (v := (.bool (false))) rfl rfl ?_
          refine WO_pure (v := (.bool (false))) rfl rfl ?_
          refine WO_nil ?_
          exact ⟨rfl, (by show ((.bool (false)) : Value) = (.bool ((decide (57343 < r)) && (decide (r ≤ 1114111)))); first | (simp [c3]; done) | (simp [c3]; omega) | (simp_all; done) | (simp_all; omega))⟩
      · rintro σ2 _ ⟨rfl, h2_10⟩
        refine W_anchor (d := 10) h2_10 (?_)
        refine W_cond (t := (decide (57343 < r)) && (decide (r ≤ 1114111))) rfl (fun c4 => ?_) (fun c4 => ?_)
        · skip
          refine W_seq ?_
          refine W_reg ?_
          refine WO_pure (v := (.bool (true))) rfl rfl ?_
          refine WO_nil ?_
          refine W_ret ?_
          refine body_ret1 rfl (v0 := (.bool (true))) rfl ?_
          exact ⟨by simp [Utf8.valid]; simp_all; try omega, rfl⟩
        · skip
          refine W_skip ?_
          refine W_seq ?_
          refine W_reg ?_
          refine WO_pure (v := (.bool (false))) rfl rfl ?_
          refine WO_nil ?_
          refine W_ret ?_
          refine body_ret1 rfl (v0 := (.bool (false))) rfl ?_
          exact ⟨by simp [Utf8.valid]; simp_all; try omega, rfl⟩

set_option maxHeartbeats 400000 in
set_option maxRecDepth 100000 in
theorem indexRune_high (l : List UInt8) (r : Int) (w : World) (hl : ∀ b ∈ l, b.toNat < 128) (hlen : l.length ≤ 1000000) (h128 : 128 ≤ r) (hv : Utf8.valid r = true) :
    Calls Try.prog 19 #[(S (l)), (.int .i32 (r))] w (Ret fun v w' => v = .int .i64 (-1) ∧ Below w.heap.size w w') := by
  obtain ⟨rs, hrs, hlo, hhi, hrb⟩ := encode_high h128 hv
  obtain ⟨m, hm⟩ : ∃ m, rs.length = m + 1 := ⟨rs.length - 1, by omega⟩
  have hat : ∀ j, j < l.length → (byteAt l j).toNat < 128 := fun j hj => by rw [byteAt_eq hj]; exact hl _ (List.getElem_mem _)
  refine calls_W Try.func19 rfl Try.ntmps19 ?_
  refine W_seq ?_
  refine W_reg ?_
  refine WO_pure (v := (.int .i64 (0))) rfl rfl ?_
  refine WO_nil ?_
  refine W_block ?_
  refine W_cut (fun σ' w' => w = w' ∧ σ' 0 = (S (l)) ∧ σ' 1 = (.int .i32 (r)) ∧ σ' 160 = (.bool ((decide (0 ≤ r)) && (decide (r < 128))))) ?_ ?_
  · refine W_reg ?_
    refine WO_pure (v := (.int .i32 (r))) rfl rfl ?_
    refine WO_pure (v := (.bool (decide (0 ≤ r)))) rfl rfl ?_
    refine WO_pure (v := (.bool (decide (0 ≤ r)))) rfl rfl ?_
    refine WO_splitp 163 (p := 0 ≤ r) (by exact rfl) (fun c1 => ?_) (fun c1 => ?_)
    · skip
      refine WO_pure (v := (.int .i32 (r))) rfl rfl ?_
      refine WO_pure (v := (.bool (decide (r < 128)))) rfl rfl ?_
      refine WO_pure (v := (.bool (decide (r < 128)))) rfl rfl ?_
      refine WO_pure (v := (.bool (decide (r < 128)))) rfl rfl ?_
      refine WO_nil ?_
      exact ⟨rfl, rfl, rfl, (by show ((.bool (decide (r < 128))) : Value) = (.bool ((decide (0 ≤ r)) && (decide (r < 128)))); first | (simp [c1]; done) | (simp [c1]; omega) | (simp_all; done) | (simp_all; omega))⟩
    · skip
      refine WO_pass rfl ?_
      refine WO_pass rfl ?_
      refine WO_pure (v := (.bool (false))) rfl rfl ?_
      refine WO_pure (v := (.bool (false))) rfl rfl ?_
      refine WO_nil ?_
      exact ⟨rfl, rfl, rfl, (by show ((.bool (false)) : Value) = (.bool ((decide (0 ≤ r)) && (decide (r < 128)))); first | (simp [c1]; done) | (simp [c1]; omega) | (simp_all; done) | (simp_all; omega))⟩
  · rintro σ1 _ ⟨rfl, h1_0, h1_1, h1_160⟩
    refine W_anchor (d := 0) h1_0 (W_anchor (d := 1) h1_1 (W_anchor (d := 160) h1_160 (?_)))
    refine W_cond (t := (decide (0 ≤ r)) && (decide (r < 128))) rfl (fun c2 => ?_) (fun c2 => ?_)
    · skip
      exfalso; simp at c2; omega
    · skip
      refine W_seq ?_
      refine W_reg ?_
      refine WO_pure (v := (.int .i32 (r))) rfl rfl ?_
      refine WO_pure (v := (.bool (decide (r = 65533)))) rfl rfl ?_
      refine WO_pure (v := (.bool (decide (r = 65533)))) rfl rfl ?_
      refine WO_nil ?_
      refine W_if (p := r = 65533) rfl (fun c3 => ?_) (fun c3 => ?_)
      · skip
        refine W_seq ?_
        refine W_seq ?_
        refine W_reg ?_
        refine WO_pure (v := (S (l))) rfl rfl ?_
        refine WO_srange (l := l) rfl rfl Try.underlying9 (fun w1 n1 => ?_)
        refine WO_nil ?_
        refine W_block ?_
        refine W_loop (fun g σ' w' => ∃ (k : Nat), σ' 175 = (.pointer (some ⟨w.heap.size, 0, none⟩)) ∧ Below w.heap.size w w' ∧ w'.heap[w.heap.size]? = some (.stringIter ⟨l.toArray⟩ k) ∧ k ≤ l.length ∧ g = l.length - k) ?_ ?_
        · refine ⟨_, 0, rfl, ?_, ?_, ?_, rfl⟩
          · exact n1.ext
          · exact n1.here
          · omega
        · rintro g σl1 wl1 ⟨k, l1_175, f1_1, f1_2, f1_3, rfl⟩
          refine W_anchor (d := 175) l1_175 (?_)
          refine W_seq ?_
          refine W_reg ?_
          refine WO_snext (l := l) (p := k) rfl rfl f1_2 (fun q2 w2 u2 => ?_) (fun q2 => ?_)
          · skip
            refine WO_pure (v := (.bool (true))) rfl rfl ?_
            refine WO_nil ?_
            refine W_seq ?_
            refine W_true rfl ?_
            refine W_skip ?_
            refine W_block ?_
            refine W_seq ?_
            refine W_reg ?_
            refine WO_pure (v := (.int .i64 ((k : Int)))) rfl rfl ?_
            refine WO_pure (v := (.int .i32 (((Utf8.decode ⟨(l).toArray⟩ k).1 : Int)))) rfl rfl ?_
            refine WO_pure (v := (.int .i64 ((k : Int)))) rfl rfl ?_
            refine WO_pure (v := (.int .i32 (((Utf8.decode ⟨(l).toArray⟩ k).1 : Int)))) rfl rfl ?_
            refine WO_nil ?_
            refine W_seq ?_
            refine W_reg ?_
            refine WO_pure (v := (.int .i32 (((Utf8.decode ⟨(l).toArray⟩ k).1 : Int)))) rfl rfl ?_
            refine WO_pure (v := (.bool (decide (((Utf8.decode ⟨(l).toArray⟩ k).1 : Int) = 65533)))) rfl rfl ?_
            refine WO_nil ?_
            refine W_if (p := ((Utf8.decode ⟨(l).toArray⟩ k).1 : Int) = 65533) rfl (fun c4 => ?_) (fun c4 => ?_)
            · skip
              exfalso; rw [decode_ascii' q2 (hat k q2)] at c4; have := hat k q2; simp only at c4; omega
            · skip
              refine W_skip ?_
              refine ⟨_, ?_, k + 1, rfl, ?_, ?_, ?_, rfl⟩
              · omega
              · exact u2.below f1_1 (Nat.le_refl _)
              · have := u2.here; rw [decode_ascii' q2 (hat k q2)] at this; exact this
              · omega
          · skip
            refine WO_pure (v := (.bool (false))) rfl rfl ?_
            refine WO_nil ?_
            refine W_seq ?_
            refine W_false rfl ?_
            refine W_exit ?_
            refine W_seq ?_
            refine W_reg ?_
            refine WO_pure (v := (.int .i64 (-1))) rfl rfl ?_
            refine WO_nil ?_
            refine W_ret ?_
            refine body_ret1 rfl (v0 := (.int .i64 (-1))) rfl ?_
            exact ⟨rfl, f1_1⟩
      · skip
        refine W_seq ?_
        refine W_reg ?_
        refine WO_pure (v := (.int .i32 (r))) rfl rfl ?_
        refine WO_call rfl (by exact en_27) (validRune_any _ _) ?_
        rintro _ _ ⟨rfl, rfl⟩
        refine WO_pure (v := (.bool (!(Utf8.valid r)))) rfl rfl ?_
        refine WO_pure (v := (.bool (!(Utf8.valid r)))) rfl rfl ?_
        refine WO_nil ?_
        refine W_cond (t := !(Utf8.valid r)) rfl (fun c5 => ?_) (fun c5 => ?_)
        · skip
          rw [hv] at c5; cases c5
        · skip
          refine W_scope ?_
          refine W_seq ?_
          refine W_reg ?_
          refine WO_pure (v := (.int .i32 (r))) rfl rfl ?_
          refine WO_same (v := S rs) rfl (by rw [R_convs rfl Try.underlying21 Try.underlying9, hrs]) ?_
          refine WO_pure (v := (S (rs))) rfl rfl ?_
          refine WO_nil ?_
          refine W_seq ?_
          refine W_reg ?_
          refine WO_pure (v := (S (rs))) rfl rfl ?_
          refine WO_slen (l := rs) rfl rfl Try.underlying9 ?_
          refine WO_sub (v := (m : Int)) rfl rfl rfl (by simp only [kLo, kHi]; omega) ?_ (by omega)
          refine WO_pure (v := (.int .i64 ((m : Int)))) rfl rfl ?_
          refine WO_nil ?_
          refine W_seq ?_
          refine W_reg ?_
          refine WO_pure (v := (.int .i64 ((m : Int)))) rfl rfl ?_
          refine WO_pure (v := (.int .i64 ((m : Int)))) rfl rfl ?_
          refine WO_nil ?_
          refine W_seq ?_
          refine W_reg ?_
          refine WO_pure (v := (.int .i64 (0))) rfl rfl ?_
          refine WO_nil ?_
          refine W_seq ?_
          refine W_block ?_
          refine W_loop (fun g σ' w' => w = w' ∧ σ' 0 = (S (l)) ∧ σ' 7 = (S (rs)) ∧ σ' 8 = (.int .i64 ((m : Int))) ∧ σ' 9 = (.int .i64 ((m : Int))) ∧ σ' 10 = (.int .i64 (0)) ∧ True ∧ g = 0) ?_ ?_
          · refine ⟨_, rfl, rfl, rfl, rfl, rfl, rfl, ?_, rfl⟩
            all_goals first | rfl | omega | simp
          · rintro g σl2 _ ⟨rfl, l2_0, l2_7, l2_8, l2_9, l2_10, f2_1, rfl⟩
            refine W_anchor (d := 0) l2_0 (W_anchor (d := 7) l2_7 (W_anchor (d := 8) l2_8 (W_anchor (d := 9) l2_9 (W_anchor (d := 10) l2_10 (?_)))))
            refine W_seq ?_
            refine W_seq ?_
            refine W_reg ?_
            refine WO_pure (v := (.int .i64 ((m : Int)))) rfl rfl ?_
            refine WO_pure (v := (S (l))) rfl rfl ?_
            refine WO_slen (l := l) rfl rfl Try.underlying9 ?_
            refine WO_pure (v := (.bool (decide ((m : Int) < (l.length : Int))))) rfl rfl ?_
            refine WO_nil ?_
            refine W_if (p := (m : Int) < (l.length : Int)) rfl (fun c6 => ?_) (fun c6 => ?_)
            · skip
              refine W_skip ?_
              refine W_block ?_
              refine W_scope ?_
              refine W_seq ?_
              refine W_seq ?_
              refine W_draw (by kernel_rfl) (by kernel_rfl) ?_
              refine WQ_pure (v := (S (l))) rfl rfl ?_
              refine WQ_pure (v := (.int .i64 ((m : Int)))) rfl rfl ?_
              refine WQ_val rfl (fun _ _ => R_sidx (l := l) (j := m) rfl rfl Try.underlying9 (by first | rfl | omega) (by first | omega | (simp; omega))) ?_
              refine WQ_pure (v := (S (rs))) rfl rfl ?_
              refine WQ_pure (v := (.int .i64 ((m : Int)))) rfl rfl ?_
              refine WQ_val rfl (fun _ _ => R_sidx (l := rs) (j := m) rfl rfl Try.underlying9 (by first | rfl | omega) (by first | omega | (simp; omega))) ?_
              refine WQ_pure (v := (.bool (!decide (((byteAt l m).toNat : Int) = ((byteAt rs m).toNat : Int))))) rfl rfl ?_
              refine WQ_nil (fun w3 d3 => ?_)
              refine W_cond (t := !decide (((byteAt l m).toNat : Int) = ((byteAt rs m).toNat : Int))) rfl (fun c7 => ?_) (fun c7 => ?_)
              · skip
                refine W_seq ?_
                refine W_draw (by kernel_rfl) (by kernel_rfl) ?_
                refine WQ_pure (v := (S (l))) rfl rfl ?_
                refine WQ_pure (v := (.int .i64 ((m : Int)))) rfl rfl ?_
                refine WQ_val rfl (fun _ _ => R_add (v := (m : Int) + 1) rfl rfl (by simp only [kLo, kHi]; omega)) ?_
                refine WQ_val rfl (fun _ _ => R_sslo (l := l) (i := m + 1) rfl rfl Try.underlying9 (by first | rfl | omega) (by first | omega | (simp; omega))) ?_
                refine WQ_pure (v := (S (rs))) rfl rfl ?_
                refine WQ_pure (v := (.int .i64 ((m : Int)))) rfl rfl ?_
                refine WQ_val rfl (fun _ _ => R_sidx (l := rs) (j := m) rfl rfl Try.underlying9 (by first | rfl | omega) (by first | omega | (simp; omega))) ?_
                refine WQ_call rfl (by exact en_26) (fun wq _ => by have h := Try.strings_IndexByte ⟨(l.drop (m + 1)).toArray⟩ ((byteAt rs m).toNat : Int) wq; rw [show Lib.indexByte (⟨(l.drop (m + 1)).toArray⟩ : ByteArray).data.toList ((byteAt rs m).toNat : Int).toNat.toUInt8 = -1 from indexByte_none _ _ (fun b hb => by have h1 := hl b (List.mem_of_mem_drop hb); have h2 := hrb m (by omega); intro e; rw [e] at h1; simp at h1; omega)] at h; exact ret_of h) ?_
                refine WQ_pure (v := (.int .i64 (-1))) rfl rfl ?_
                refine WQ_nil (fun w4 d4 => ?_)
                refine W_seq ?_
                refine W_seq ?_
                refine W_reg ?_
                refine WO_pure (v := (.int .i64 (-1))) rfl rfl ?_
                refine WO_pure (v := (.bool (true))) rfl rfl ?_
                refine WO_nil ?_
                refine W_true rfl ?_
                refine W_seq ?_
                refine W_reg ?_
                refine WO_pure (v := (.int .i64 (-1))) rfl rfl ?_
                refine WO_nil ?_
                refine W_ret ?_
                refine body_ret1 rfl (v0 := (.int .i64 (-1))) rfl ?_
                exact ⟨rfl, below_ext d3.ext d4.ext⟩
              · skip
                exfalso; have h1 := hat _ (by omega : m < l.length); have h2 := hrb m (by omega); simp at c7; omega
            · skip
              refine W_exit ?_
              refine W_seq ?_
              refine W_seq ?_
              refine W_reg ?_
              refine WO_pure (v := (.int .i64 (-1))) rfl rfl ?_
              refine WO_nil ?_
              refine W_ret ?_
              refine body_ret1 rfl (v0 := (.int .i64 (-1))) rfl ?_
              exact ⟨rfl, Below.refl _ _⟩


/-- A separator of a table: greater, or equal. -/
def isSep (b : UInt8) : Bool := decide (b = 62) || decide (b = 58)
def sepIdx (l : List UInt8) : Nat := (l.takeWhile (fun b => !isSep b)).length
def sepZ (l : List UInt8) : Int := if sepIdx l < l.length then (sepIdx l : Int) else -1
theorem sepIdx_le (l : List UInt8) : sepIdx l ≤ l.length := by
  unfold sepIdx; exact (List.takeWhile_sublist _).length_le
theorem sepIdx_hit {l : List UInt8} {k : Nat} (h : k < l.length) (ha : (l.take k).all (fun b => !isSep b) = true) (hc : isSep (byteAt l k) = true) : sepIdx l = k := by
  unfold sepIdx
  induction l generalizing k with
  | nil => simp at h
  | cons b l ih =>
    cases k with
    | zero =>
      have : isSep b = true := by simpa [byteAt] using hc
      simp [this]
    | succ k =>
      simp only [List.take_succ_cons, List.all_cons, Bool.and_eq_true] at ha
      rw [List.takeWhile_cons, if_pos ha.1, List.length_cons, ih (by simpa using h) ha.2 (by simpa [byteAt] using hc)]
theorem sepIdx_none {l : List UInt8} (ha : l.all (fun b => !isSep b) = true) : sepIdx l = l.length := by
  unfold sepIdx
  congr 1
  induction l with
  | nil => rfl
  | cons b l ih =>
    rw [List.all_cons, Bool.and_eq_true] at ha
    rw [List.takeWhile_cons, if_pos ha.1, ih ha.2]
theorem sepZ_hit {l : List UInt8} {k : Nat} (h : k < l.length) (ha : (l.take k).all (fun b => !isSep b) = true) (hc : isSep (byteAt l k) = true) : sepZ l = k := by
  unfold sepZ; rw [sepIdx_hit h ha hc, if_pos h]
theorem sepZ_none {l : List UInt8} (ha : l.all (fun b => !isSep b) = true) : sepZ l = -1 := by
  unfold sepZ; rw [sepIdx_none ha, if_neg (by omega)]
theorem sep_contains (b : UInt8) : [62, 58].contains b = isSep b := by
  simp [isSep]
theorem valid_decode {l : List UInt8} {k : Nat} (h : k < l.length) (ha : 128 ≤ (byteAt l k).toNat) : Utf8.valid ((Utf8.decode ⟨l.toArray⟩ k).1 : Int) = true := by
  have hb := decode_high h ha
  have hg : ((⟨l.toArray⟩ : ByteArray).get! (k + 0)).toNat = (byteAt l k).toNat := by
    simp only [ByteArray.get!, byteAt, Nat.add_zero]
    rw [List.getD_eq_getElem?_getD]
    simp [show (default : UInt8) = 0 from rfl]
  have hlt := byteAt_lt l k
  have he : Utf8.valid (Utf8.runeError : Int) = true := by decide
  have two : ∀ c : Nat, c < 2048 → Utf8.valid (c : Int) = true := fun c hc => by simp [Utf8.valid]; omega
  unfold Utf8.decode
  simp only [hg]
  rw [if_neg (by omega)]
  split
  · split
    · refine two _ ?_
      simp only; omega
    · exact he
  · split
    · split
      · rename_i h2; simp only [Bool.and_eq_true] at h2; exact h2.2
      · exact he
    · split
      · split
        · rename_i h2; simp only [Bool.and_eq_true] at h2; exact h2.2
        · exact he
      · exact he
theorem get_byte (l : List UInt8) (k : Nat) : ((⟨l.toArray⟩ : ByteArray).get! k).toNat = (byteAt l k).toNat := by
  simp only [ByteArray.get!, byteAt]
  rw [List.getD_eq_getElem?_getD]
  simp [show (default : UInt8) = 0 from rfl]
theorem decode_span {l : List UInt8} {p : Nat} (h : p < l.length) (ha : 128 ≤ (byteAt l p).toNat) : ∀ j, j < (Utf8.decode ⟨l.toArray⟩ p).2 → p + j < l.length ∧ 128 ≤ (byteAt l (p + j)).toNat := by
  have one : ∀ j, j < 1 → p + j < l.length ∧ 128 ≤ (byteAt l (p + j)).toNat := fun j hj => by
    obtain rfl : j = 0 := by omega
    exact ⟨h, ha⟩
  have cont : ∀ j, (decide (p + j < (⟨l.toArray⟩ : ByteArray).size) && (byteAt l (p + j)).toNat / 64 == 2) = true → p + j < l.length ∧ 128 ≤ (byteAt l (p + j)).toNat := fun j hj => by
    simp only [Bool.and_eq_true, decide_eq_true_eq, beq_iff_eq, S_size] at hj
    omega
  unfold Utf8.decode
  simp only [get_byte, Nat.add_zero]
  rw [if_neg (by omega)]
  split
  · rename_i h2
    simp only [Bool.and_eq_true] at h2
    split
    · intro j hj
      match j, hj with
      | 0, _ => exact ⟨h, ha⟩
      | 1, _ => exact cont 1 (by simpa using h2.2)
    · exact one
  · split
    · rename_i h2
      simp only [Bool.and_eq_true] at h2
      split
      · intro j hj
        match j, hj with
        | 0, _ => exact ⟨h, ha⟩
        | 1, _ => exact cont 1 (by simpa using h2.1.2)
        | 2, _ => exact cont 2 (by simpa using h2.2)
      · exact one
    · split
      · rename_i h2
        simp only [Bool.and_eq_true] at h2
        split
        · intro j hj
          match j, hj with
          | 0, _ => exact ⟨h, ha⟩
          | 1, _ => exact cont 1 (by simpa using h2.1.1.2)
          | 2, _ => exact cont 2 (by simpa using h2.1.2)
          | 3, _ => exact cont 3 (by simpa using h2.2)
        · exact one
      · exact one
theorem all_take_span {l : List UInt8} {q : UInt8 → Bool} {k : Nat} : ∀ d, (l.take k).all q = true → (∀ j, j < d → k + j < l.length ∧ q (byteAt l (k + j)) = true) → (l.take (k + d)).all q = true
  | 0, h, _ => h
  | d + 1, h, hj => by
    have h1 := all_take_span d h (fun j hjd => hj j (by omega))
    have h2 := hj d (by omega)
    exact all_take_snoc h2.1 h1 h2.2
theorem rune_sep {l : List UInt8} {k : Nat} (h : k < l.length) : (decide (((Utf8.decode ⟨l.toArray⟩ k).1 : Int) = 62) || decide (((Utf8.decode ⟨l.toArray⟩ k).1 : Int) = 58)) = isSep (byteAt l k) := by
  by_cases ha : (byteAt l k).toNat < 128
  · rw [decode_ascii' h ha]
    simp only [isSep]
    congr 1 <;> exact decide_eq_decide.2 ⟨fun e => UInt8.toNat_inj.1 (by first | (show _ = 62; omega) | (show _ = 58; omega)), fun e => by rw [e]; rfl⟩
  · have h1 := (decode_high h (by omega)).1
    have e1 : ¬ byteAt l k = 62 := fun e => by rw [e] at ha; simp at ha
    have e2 : ¬ byteAt l k = 58 := fun e => by rw [e] at ha; simp at ha
    have e3 : ¬ ((Utf8.decode ⟨l.toArray⟩ k).1 : Int) = 62 := by omega
    have e4 : ¬ ((Utf8.decode ⟨l.toArray⟩ k).1 : Int) = 58 := by omega
    simp [isSep, e1, e2, e3, e4]
theorem sep_span {l : List UInt8} {k : Nat} (h : k < l.length) (hs : isSep (byteAt l k) = false) : ∀ j, j < (Utf8.decode ⟨l.toArray⟩ k).2 → k + j < l.length ∧ (!isSep (byteAt l (k + j))) = true := by
  by_cases ha : (byteAt l k).toNat < 128
  · rw [decode_ascii' h ha]
    intro j hj
    obtain rfl : j = 0 := by simp only at hj; omega
    exact ⟨h, by simp [hs]⟩
  · intro j hj
    have h1 := decode_span h (by omega) j hj
    refine ⟨h1.1, ?_⟩
    have e1 : ¬ byteAt l (k + j) = 62 := fun e => by rw [e] at h1; simp at h1
    have e2 : ¬ byteAt l (k + j) = 58 := fun e => by rw [e] at h1; simp at h1
    simp [isSep, e1, e2]
theorem decode_pos {l : List UInt8} {k : Nat} (h : k < l.length) : 1 ≤ (Utf8.decode ⟨l.toArray⟩ k).2 := by
  by_cases ha : (byteAt l k).toNat < 128
  · rw [decode_ascii' h ha]; exact Nat.le_refl _
  · exact (decode_high h (by omega)).2.2
/-- strings.IndexRune at the two separators. -/
theorem indexRune_seps (r : Int) (w : World) (h0 : 0 ≤ r) (hv : Utf8.valid r = true) :
    Calls Try.prog 19 #[S [62, 58], .int .i32 r] w (Ret fun v w' => ∃ z : Int, v = .int .i64 z ∧ decide (0 ≤ z) = (decide (r = 62) || decide (r = 58)) ∧ Below w.heap.size w w') := by
  by_cases h : r < 128
  · refine (Try.strings_IndexRune_ascii ⟨[62, 58].toArray⟩ r w h0 h).mono ?_
    rintro e w' ⟨he, hw⟩
    refine ⟨_, he, _, rfl, ?_, by rw [hw]; exact Below.refl _ _⟩
    obtain ⟨k, rfl⟩ := Int.eq_ofNat_of_zero_le h0
    have hk : k < 128 := by omega
    clear he h h0 hv
    simp only [Int.toNat_natCast]
    revert hk
    revert k
    decide
  · refine (indexRune_high [62, 58] r w (by decide) (by decide) (by omega) hv).mono ?_
    rintro e w' ⟨v, he, hv', hw⟩
    refine ⟨v, he, _, hv', ?_, hw⟩
    have h1 : ¬ r = 62 := by omega
    have h2 : ¬ r = 58 := by omega
    simp [h1, h2]
theorem zero52 : ∀ w, (zeroValue 52).run Try.prog w = .ok (.agg (Array.replicate 256 (.bool false))) w := fun w => by kernel_rfl
theorem size52 : ∀ w, (sizeOf 52).run Try.prog w = .ok 256 w := fun w => by kernel_rfl

set_option maxHeartbeats 400000 in
set_option maxRecDepth 100000 in
theorem shouldUse_any (a : Int) (w : World) :
    Calls Try.prog 20 #[(.int .i64 (a))] w (Ret fun v w' => v = .bool (decide (8 < a)) ∧ w = w') := by
  refine calls_W Try.func20 rfl Try.ntmps20 ?_
  refine W_seq ?_
  refine W_reg ?_
  refine WO_pure (v := (.bool (false))) rfl rfl ?_
  refine WO_nil ?_
  refine W_seq ?_
  refine W_reg ?_
  refine WO_pure (v := (.int .i64 (a))) rfl rfl ?_
  refine WO_pure (v := (.bool (decide (8 < a)))) rfl rfl ?_
  refine WO_pure (v := (.bool (decide (8 < a)))) rfl rfl ?_
  refine WO_nil ?_
  refine W_ret ?_
  refine body_ret1 rfl (v0 := (.bool (decide (8 < a)))) rfl ?_
  exact ⟨rfl, rfl⟩

set_option maxHeartbeats 1000000 in
set_option maxRecDepth 100000 in
theorem indexAny_seps (l : List UInt8) (w : World) (hlen : l.length ≤ 9223372036854775807) :
    Calls Try.prog 15 #[(S (l)), (S ([62, 58]))] w (Ret fun v w' => v = .int .i64 (sepZ l) ∧ Below w.heap.size w w') := by
  refine calls_W Try.func15 rfl Try.ntmps15 ?_
  refine W_seq ?_
  refine W_reg ?_
  refine WO_pure (v := (.int .i64 (0))) rfl rfl ?_
  refine WO_nil ?_
  refine W_seq ?_
  refine W_seq ?_
  refine W_reg ?_
  refine WO_pure (v := (S ([62, 58]))) rfl rfl ?_
  refine WO_seql (l1 := [62, 58]) (l2 := []) rfl rfl rfl ?_
  refine WO_nil ?_
  refine W_if (p := [62, 58] = []) rfl (fun c1 => ?_) (fun c1 => ?_)
  · skip
    exact absurd c1 (by decide)
  · skip
    refine W_skip ?_
    refine W_seq ?_
    refine W_seq ?_
    refine W_reg ?_
    refine WO_pure (v := (S ([62, 58]))) rfl rfl ?_
    refine WO_slen (l := [62, 58]) rfl rfl Try.underlying9 ?_
    refine WO_pure (v := (.bool (decide ((([62, 58]).length : Int) = 1)))) rfl rfl ?_
    refine WO_nil ?_
    refine W_if (p := (([62, 58]).length : Int) = 1) rfl (fun c2 => ?_) (fun c2 => ?_)
    · skip
      exact absurd c2 (by decide)
    · skip
      refine W_skip ?_
      refine W_seq ?_
      refine W_seq ?_
      refine W_reg ?_
      refine WO_pure (v := (S (l))) rfl rfl ?_
      refine WO_slen (l := l) rfl rfl Try.underlying9 ?_
      refine WO_call rfl (by exact en_20) (shouldUse_any _ _) ?_
      rintro _ _ ⟨rfl, rfl⟩
      refine WO_nil ?_
      refine W_if (p := 8 < (l.length : Int)) rfl (fun c3 => ?_) (fun c3 => ?_)
      · skip
        refine W_seq ?_
        refine W_reg ?_
        refine WO_pure (v := (S ([62, 58]))) rfl rfl ?_
        refine WO_call rfl (by exact en_21) (ret_of' (T := fun w' => New w w' (.cells (Lib.setCells [62, 58]) 52)) (Try.strings_makeASCIISet zero52 ⟨[62, 58].toArray⟩ w (by decide) (fun j b hb => by have : b ∈ [(62 : UInt8), 58] := List.mem_of_getElem? hb; simp only [List.mem_cons, List.not_mem_nil, or_false] at this; rcases this with rfl | rfl <;> decide))) ?_
        rintro _ w1 ⟨rfl, n1⟩
        refine WO_pure rfl rfl ?_
        refine WO_pure (v := (.agg (Lib.setCells [62, 58]))) rfl rfl ?_
        refine WO_pure (v := (.bool (true))) rfl rfl ?_
        refine WO_alloc rfl zero52 (fun w2 n2 => ?_)
        refine WO_storerow (b := w1.heap.size) (o := 0) (c := Array.replicate 256 (.bool false)) (c' := Lib.setCells [62, 58]) rfl rfl rfl (by rw [Lib.setCells_size]; exact size52) (Lib.setCells_one _) n2.here (by rw [Lib.setCells_size]; simp) (fun w3 u3 => ?_)
        have hset : ∀ x : UInt8, w3.cell? ⟨w1.heap.size, x.toNat, none⟩ = some (.bool (isSep x)) := fun x => by
          refine cell_of u3.here ?_
          have := Lib.setCells_at [62, 58] x
          rw [sep_contains] at this
          have hsz := Lib.setCells_size [62, 58]
          simpa [hsz] using this
        refine WO_pure (v := (.bool (true))) rfl rfl ?_
        refine WO_nil ?_
        refine W_seq ?_
        refine W_reg ?_
        refine WO_pure (v := (.bool (true))) rfl rfl ?_
        refine WO_nil ?_
        refine W_true rfl ?_
        refine W_seq ?_
        refine W_seq ?_
        refine W_reg ?_
        refine WO_pure (v := (.int .i64 (0))) rfl rfl ?_
        refine WO_nil ?_
        refine W_block ?_
        refine W_loop (fun g σ' w' => ∃ (k : Nat), σ' 0 = (S (l)) ∧ σ' 6 = (.pointer (some ⟨w1.heap.size, 0, none⟩)) ∧ σ' 8 = (.int .i64 ((k : Int))) ∧ Below w.heap.size w w' ∧ (∀ x : UInt8, w'.cell? ⟨w1.heap.size, x.toNat, none⟩ = some (.bool (isSep x))) ∧ k ≤ l.length ∧ (l.take k).all (fun b => !isSep b) = true ∧ g = l.length - k) ?_ ?_
        · refine ⟨_, 0, rfl, rfl, rfl, ?_, ?_, ?_, ?_, rfl⟩
          · exact u3.below (n2.below n1.ext (by rw [n1.size]; omega)) (by rw [n1.size]; omega)
          · exact hset
          · omega
          · rfl
        · rintro g σl1 wl1 ⟨k, l1_0, l1_6, l1_8, f1_1, f1_2, f1_3, f1_4, rfl⟩
          refine W_anchor (d := 0) l1_0 (W_anchor (d := 6) l1_6 (W_anchor (d := 8) l1_8 (?_)))
          refine W_seq ?_
          refine W_seq ?_
          refine W_reg ?_
          refine WO_pure (v := (.int .i64 ((k : Int)))) rfl rfl ?_
          refine WO_pure (v := (S (l))) rfl rfl ?_
          refine WO_slen (l := l) rfl rfl Try.underlying9 ?_
          refine WO_pure (v := (.bool (decide ((k : Int) < (l.length : Int))))) rfl rfl ?_
          refine WO_nil ?_
          refine W_if (p := (k : Int) < (l.length : Int)) rfl (fun c4 => ?_) (fun c4 => ?_)
          · skip
            refine W_skip ?_
            refine W_seq ?_
            refine W_block ?_
            refine W_seq ?_
            refine W_reg ?_
            refine WO_pure (v := (S (l))) rfl rfl ?_
            refine WO_pure (v := (.int .i64 ((k : Int)))) rfl rfl ?_
            refine WO_sidx (l := l) (j := k) rfl rfl rfl Try.underlying9 (by first | rfl | omega) (by first | omega | (simp; omega)) ?_
            refine WO_call rfl (by exact en_22) (ret_of (Try.asciiSet_contains w1.heap.size (byteAt l k) (isSep (byteAt l k)) _ (f1_2 _))) ?_
            rintro _ _ ⟨rfl, rfl⟩
            refine WO_nil ?_
            refine W_cond (t := isSep (byteAt l k)) rfl (fun c5 => ?_) (fun c5 => ?_)
            · skip
              refine W_seq ?_
              refine W_reg ?_
              refine WO_pure (v := (.int .i64 ((k : Int)))) rfl rfl ?_
              refine WO_pure (v := (.int .i64 ((k : Int)))) rfl rfl ?_
              refine WO_nil ?_
              refine W_ret ?_
              refine body_ret1 rfl (v0 := (.int .i64 ((k : Int)))) rfl ?_
              exact ⟨by rw [sepZ_hit (k := k) (by omega) f1_4 c5], f1_1⟩
            · skip
              refine W_skip ?_
              refine W_reg ?_
              refine WO_pure (v := (.int .i64 ((k : Int)))) rfl rfl ?_
              refine WO_add (v := (k : Int) + 1) rfl rfl rfl (by simp only [kLo, kHi]; omega) ?_
              refine WO_pure (v := (.int .i64 ((k : Int) + 1))) rfl rfl ?_
              refine WO_nil ?_
              refine ⟨_, ?_, k + 1, rfl, rfl, rfl, ?_, ?_, ?_, ?_, rfl⟩
              · omega
              · assumption
              · assumption
              · omega
              · exact all_take_snoc (by omega) f1_4 (by simpa using c5)
          · skip
            refine W_exit ?_
            refine W_seq ?_
            refine W_reg ?_
            refine WO_pure (v := (.int .i64 (-1))) rfl rfl ?_
            refine WO_nil ?_
            refine W_ret ?_
            refine body_ret1 rfl (v0 := (.int .i64 (-1))) rfl ?_
            exact ⟨by rw [sepZ_none (by rw [List.take_of_length_le (by omega)] at f1_4; exact f1_4)], f1_1⟩
      · skip
        refine W_skip ?_
        refine W_seq ?_
        refine W_seq ?_
        refine W_reg ?_
        refine WO_pure (v := (S (l))) rfl rfl ?_
        refine WO_srange (l := l) rfl rfl Try.underlying9 (fun w1 n1 => ?_)
        refine WO_nil ?_
        refine W_block ?_
        refine W_loop (fun g σ' w' => ∃ (k : Nat), σ' 1 = (S ([62, 58])) ∧ σ' 45 = (.pointer (some ⟨w.heap.size, 0, none⟩)) ∧ Below w.heap.size w w' ∧ w'.heap[w.heap.size]? = some (.stringIter ⟨l.toArray⟩ k) ∧ k ≤ l.length ∧ (l.take k).all (fun b => !isSep b) = true ∧ g = l.length - k) ?_ ?_
        · refine ⟨_, 0, rfl, rfl, ?_, ?_, ?_, ?_, rfl⟩
          · exact n1.ext
          · exact n1.here
          · omega
          · rfl
        · rintro g σl2 wl2 ⟨k, l2_1, l2_45, f2_1, f2_2, f2_3, f2_4, rfl⟩
          refine W_anchor (d := 1) l2_1 (W_anchor (d := 45) l2_45 (?_))
          refine W_seq ?_
          refine W_reg ?_
          refine WO_snext (l := l) (p := k) rfl rfl f2_2 (fun q2 w2 u2 => ?_) (fun q2 => ?_)
          · skip
            refine WO_pure (v := (.bool (true))) rfl rfl ?_
            refine WO_nil ?_
            refine W_seq ?_
            refine W_true rfl ?_
            refine W_skip ?_
            refine W_block ?_
            refine W_seq ?_
            refine W_reg ?_
            refine WO_pure (v := (.int .i64 ((k : Int)))) rfl rfl ?_
            refine WO_pure (v := (.int .i32 (((Utf8.decode ⟨(l).toArray⟩ k).1 : Int)))) rfl rfl ?_
            refine WO_pure (v := (.int .i64 ((k : Int)))) rfl rfl ?_
            refine WO_pure (v := (.int .i32 (((Utf8.decode ⟨(l).toArray⟩ k).1 : Int)))) rfl rfl ?_
            refine WO_nil ?_
            refine W_seq ?_
            refine W_reg ?_
            refine WO_pure (v := (S ([62, 58]))) rfl rfl ?_
            refine WO_pure (v := (.int .i32 (((Utf8.decode ⟨(l).toArray⟩ k).1 : Int)))) rfl rfl ?_
            have hvr : Utf8.valid ((Utf8.decode ⟨l.toArray⟩ k).1 : Int) = true := by
              by_cases ha : (byteAt l k).toNat < 128
              · rw [decode_ascii' q2 ha]; simp [Utf8.valid]; omega
              · exact valid_decode q2 (by omega)
            refine WO_call rfl (by exact en_19) (indexRune_seps _ _ (by omega) hvr) ?_
            rintro _ w5 ⟨z, rfl, hz, hb5⟩
            refine WO_pure (v := (.bool (decide (0 ≤ z)))) rfl rfl ?_
            refine WO_nil ?_
            refine W_if (p := 0 ≤ z) rfl (fun c6 => ?_) (fun c6 => ?_)
            · skip
              refine W_seq ?_
              refine W_reg ?_
              refine WO_pure (v := (.int .i64 ((k : Int)))) rfl rfl ?_
              refine WO_pure (v := (.int .i64 ((k : Int)))) rfl rfl ?_
              refine WO_nil ?_
              refine W_ret ?_
              refine body_ret1 rfl (v0 := (.int .i64 ((k : Int)))) rfl ?_
              exact ⟨by rw [sepZ_hit q2 f2_4 (by rw [← rune_sep q2, ← hz]; simpa using c6)], below_ext (u2.below f2_1 (Nat.le_refl _)) hb5⟩
            · skip
              refine W_skip ?_
              have hsn : isSep (byteAt l k) = false := by rw [← rune_sep q2, ← hz]; simpa using c6
              refine ⟨_, ?_, k + (Utf8.decode ⟨l.toArray⟩ k).2, rfl, rfl, ?_, ?_, ?_, ?_, rfl⟩
              · have := decode_pos q2; have := (sep_span q2 hsn _ (by omega : (Utf8.decode ⟨l.toArray⟩ k).2 - 1 < _)).1; omega
              · exact below_ext (u2.below f2_1 (Nat.le_refl _)) hb5
              · exact below_keep hb5 u2.here
              · have := decode_pos q2; have := (sep_span q2 hsn _ (by omega : (Utf8.decode ⟨l.toArray⟩ k).2 - 1 < _)).1; omega
              · exact all_take_span _ f2_4 (sep_span q2 hsn)
          · skip
            refine WO_pure (v := (.bool (false))) rfl rfl ?_
            refine WO_nil ?_
            refine W_seq ?_
            refine W_false rfl ?_
            refine W_exit ?_
            refine W_seq ?_
            refine W_reg ?_
            refine WO_pure (v := (.int .i64 (-1))) rfl rfl ?_
            refine WO_nil ?_
            refine W_ret ?_
            refine body_ret1 rfl (v0 := (.int .i64 (-1))) rfl ?_
            exact ⟨by rw [sepZ_none (by rw [List.take_of_length_le (by omega)] at f2_4; exact f2_4)], f2_1⟩

end Go.Proofs.Ytcnmbdabnppbeaa
