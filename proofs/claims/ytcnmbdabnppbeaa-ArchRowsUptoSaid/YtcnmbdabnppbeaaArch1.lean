/- Walks of the small functions of the layer arch and of its reference. No condition. -/
import Derived.Test.YtcnmbdabnppbeaaHeap
namespace Go.Proofs.Ytcnmbdabnppbeaa
open Go Go.RowKit

theorem en_25 : Enters Try.prog 25 := enters_of Try.func25 (by kernel_rfl) rfl
theorem en_17 : Enters Try.prog 17 := enters_of Try.func17 (by kernel_rfl) rfl
theorem en_18 : Enters Try.prog 18 := enters_of Try.func18 (by kernel_rfl) rfl
theorem en_30 : Enters Try.prog 30 := enters_of Try.func30 (by kernel_rfl) rfl
theorem en_24 : Enters Try.prog 24 := enters_of Try.func24 (by kernel_rfl) rfl
theorem en_23 : Enters Try.prog 23 := enters_of Try.func23 (by kernel_rfl) rfl
theorem en_16 : Enters Try.prog 16 := enters_of Try.func16 (by kernel_rfl) rfl

set_option maxHeartbeats 400000 in
set_option maxRecDepth 100000 in
theorem isNaN_int (x : Int) (w : World) :
    Calls Try.prog 25 #[(.int .i64 (x))] w (Ret fun v w' => v = .bool false ∧ w = w') := by
  refine calls_W Try.func25 rfl Try.ntmps25 ?_
  refine W_seq ?_
  refine W_reg ?_
  refine WO_pure (v := (.bool (false))) rfl rfl ?_
  refine WO_nil ?_
  refine W_seq ?_
  refine W_reg ?_
  refine WO_pure (v := (.int .i64 (x))) rfl rfl ?_
  refine WO_pure (v := (.int .i64 (x))) rfl rfl ?_
  refine WO_pure (v := (.bool (!decide (x = x)))) rfl rfl ?_
  refine WO_pure (v := (.bool (!decide (x = x)))) rfl rfl ?_
  refine WO_nil ?_
  refine W_ret ?_
  refine body_ret1 rfl (v0 := (.bool (!decide (x = x)))) rfl ?_
  exact ⟨by simp, rfl⟩

set_option maxHeartbeats 400000 in
set_option maxRecDepth 100000 in
theorem compare_int (x y : Int) (w : World) :
    Calls Try.prog 18 #[(.int .i64 (x)), (.int .i64 (y))] w (Ret fun v w' => v = .int .i64 (if x < y then -1 else if y < x then 1 else 0) ∧ w = w') := by
  refine calls_W Try.func18 rfl Try.ntmps18 ?_
  refine W_seq ?_
  refine W_reg ?_
  refine WO_pure (v := (.int .i64 (0))) rfl rfl ?_
  refine WO_nil ?_
  refine W_seq ?_
  refine W_reg ?_
  refine WO_pure (v := (.int .i64 (x))) rfl rfl ?_
  refine WO_call rfl (by exact en_25) (isNaN_int _ _) ?_
  rintro _ _ ⟨rfl, rfl⟩
  refine WO_pure (v := (.bool (false))) rfl rfl ?_
  refine WO_nil ?_
  refine W_seq ?_
  refine W_reg ?_
  refine WO_pure (v := (.int .i64 (y))) rfl rfl ?_
  refine WO_call rfl (by exact en_25) (isNaN_int _ _) ?_
  rintro _ _ ⟨rfl, rfl⟩
  refine WO_pure (v := (.bool (false))) rfl rfl ?_
  refine WO_nil ?_
  refine W_seq ?_
  refine W_seq ?_
  refine W_reg ?_
  refine WO_pure (v := (.bool (false))) rfl rfl ?_
  refine WO_nil ?_
  refine W_false rfl ?_
  refine W_skip ?_
  refine W_seq ?_
  refine W_seq ?_
  refine W_reg ?_
  refine WO_pure (v := (.bool (false))) rfl rfl ?_
  refine WO_nil ?_
  refine W_false rfl ?_
  refine W_skip ?_
  refine W_seq ?_
  refine W_seq ?_
  refine W_reg ?_
  refine WO_pure (v := (.int .i64 (x))) rfl rfl ?_
  refine WO_pure (v := (.int .i64 (y))) rfl rfl ?_
  refine WO_pure (v := (.bool (decide (x < y)))) rfl rfl ?_
  refine WO_nil ?_
  refine W_if (p := x < y) rfl (fun c1 => ?_) (fun c1 => ?_)
  · skip
    refine W_seq ?_
    refine W_reg ?_
    refine WO_pure (v := (.int .i64 (-1))) rfl rfl ?_
    refine WO_nil ?_
    refine W_ret ?_
    refine body_ret1 rfl (v0 := (.int .i64 (-1))) rfl ?_
    exact ⟨by simp [*], rfl⟩
  · skip
    refine W_skip ?_
    refine W_seq ?_
    refine W_seq ?_
    refine W_reg ?_
    refine WO_pure (v := (.int .i64 (x))) rfl rfl ?_
    refine WO_pure (v := (.int .i64 (y))) rfl rfl ?_
    refine WO_pure (v := (.bool (decide (y < x)))) rfl rfl ?_
    refine WO_nil ?_
    refine W_if (p := y < x) rfl (fun c2 => ?_) (fun c2 => ?_)
    · skip
      refine W_seq ?_
      refine W_reg ?_
      refine WO_pure (v := (.int .i64 (1))) rfl rfl ?_
      refine WO_nil ?_
      refine W_ret ?_
      refine body_ret1 rfl (v0 := (.int .i64 (1))) rfl ?_
      exact ⟨by simp [*], rfl⟩
    · skip
      refine W_skip ?_
      refine W_seq ?_
      refine W_reg ?_
      refine WO_pure (v := (.int .i64 (0))) rfl rfl ?_
      refine WO_nil ?_
      refine W_ret ?_
      refine body_ret1 rfl (v0 := (.int .i64 (0))) rfl ?_
      exact ⟨by simp [*], rfl⟩


def smallB (c : UInt8) : Bool := (97 ≤ c.toNat && c.toNat ≤ 122) || (48 ≤ c.toNat && c.toNat ≤ 57) || c.toNat == 95
def refnameB (l : List UInt8) : Bool := l.all smallB && (decide (1 ≤ l.length) && decide (l.length ≤ 20))
theorem refnameB_no {l : List UInt8} {k : Nat} (h : k < l.length) (hc : smallB (byteAt l k) = false) : refnameB l = false := by
  unfold refnameB
  rw [Bool.and_eq_false_iff]; left
  rw [List.all_eq_false]
  rw [byteAt_eq h] at hc
  exact ⟨l[k], List.getElem_mem _, by simpa using hc⟩
theorem refnameB_yes {l : List UInt8} {k : Nat} (h : (l.take k).all smallB = true) (hk : l.length ≤ k) : refnameB l = (decide (1 ≤ (l.length : Int)) && decide ((l.length : Int) ≤ 20)) := by
  rw [List.take_of_length_le hk] at h
  unfold refnameB; rw [h, Bool.true_and]
  congr 1 <;> exact decide_eq_decide.2 (by omega)
theorem all_take_snoc {l : List UInt8} {p : UInt8 → Bool} {k : Nat} (h : k < l.length) (ha : (l.take k).all p = true) (hc : p (byteAt l k) = true) : (l.take (k + 1)).all p = true := by
  rw [List.take_succ_eq_append_getElem h]
  rw [byteAt_eq h] at hc
  simp only [List.all_append, ha, List.all_cons, List.all_nil, Bool.true_and, Bool.and_true]
  exact hc

set_option maxHeartbeats 400000 in
set_option maxRecDepth 100000 in
theorem refname_any (l : List UInt8) (w : World) (hs : l.length ≤ 9223372036854775807) :
    Calls Try.prog 17 #[(S (l))] w (Ret fun v w' => v = .bool (refnameB l) ∧ w = w') := by
  refine calls_W Try.func17 rfl Try.ntmps17 ?_
  refine W_seq ?_
  refine W_reg ?_
  refine WO_pure (v := (.bool (false))) rfl rfl ?_
  refine WO_nil ?_
  refine W_seq ?_
  refine W_seq ?_
  refine W_reg ?_
  refine WO_pure (v := (.int .i64 (0))) rfl rfl ?_
  refine WO_nil ?_
  refine W_block ?_
  refine W_loop (fun g σ' w' => ∃ (k : Nat), w = w' ∧ σ' 0 = (S (l)) ∧ σ' 3 = (.int .i64 ((k : Int))) ∧ k ≤ l.length ∧ (l.take k).all smallB = true ∧ g = l.length - k) ?_ ?_
  · refine ⟨_, 0, rfl, rfl, rfl, ?_, ?_, rfl⟩
    all_goals first | rfl | omega | simp
  · rintro g σl1 _ ⟨k, rfl, l1_0, l1_3, f1_1, f1_2, rfl⟩
    refine W_anchor (d := 0) l1_0 (W_anchor (d := 3) l1_3 (?_))
    refine W_seq ?_
    refine W_seq ?_
    refine W_reg ?_
    refine WO_pure (v := (.int .i64 ((k : Int)))) rfl rfl ?_
    refine WO_pure (v := (S (l))) rfl rfl ?_
    refine WO_slen (l := l) rfl rfl Try.underlying9 ?_
    refine WO_pure (v := (.bool (decide ((k : Int) < (l.length : Int))))) rfl rfl ?_
    refine WO_nil ?_
    refine W_if (p := (k : Int) < (l.length : Int)) rfl (fun c1 => ?_) (fun c1 => ?_)
    · skip
      refine W_skip ?_
      refine W_seq ?_
      refine W_block ?_
      refine W_seq ?_
      refine W_reg ?_
      refine WO_pure (v := (S (l))) rfl rfl ?_
      refine WO_pure (v := (.int .i64 ((k : Int)))) rfl rfl ?_
      refine WO_sidx (l := l) (j := k) rfl rfl rfl Try.underlying9 (by first | rfl | omega) (by first | omega | (simp; omega)) ?_
      refine WO_pure (v := (.int .u8 (((byteAt l k).toNat : Int)))) rfl rfl ?_
      refine WO_nil ?_
      refine W_cut (fun σ' w' => w = w' ∧ σ' 0 = (S (l)) ∧ σ' 3 = (.int .i64 ((k : Int))) ∧ σ' 31 = (.bool (!smallB (byteAt l k)))) ?_ ?_
      · refine W_reg ?_
        refine WO_pure (v := (.int .u8 (((byteAt l k).toNat : Int)))) rfl rfl ?_
        refine WO_pure (v := (.bool (decide (((byteAt l k).toNat : Int) < 97)))) rfl rfl ?_
        refine WO_pure (v := (.bool (decide (((byteAt l k).toNat : Int) < 97)))) rfl rfl ?_
        refine WO_splitp 16 (p := ((byteAt l k).toNat : Int) < 97) (by exact rfl) (fun c2 => ?_) (fun c2 => ?_)
        · skip
          refine WO_pass rfl ?_
          refine WO_pass rfl ?_
          refine WO_pure (v := (.bool (true))) rfl rfl ?_
          refine WO_pure (v := (.bool (true))) rfl rfl ?_
          refine WO_pure (v := (.int .u8 (((byteAt l k).toNat : Int)))) rfl rfl ?_
          refine WO_pure (v := (.bool (decide (((byteAt l k).toNat : Int) < 48)))) rfl rfl ?_
          refine WO_pure (v := (.bool (decide (((byteAt l k).toNat : Int) < 48)))) rfl rfl ?_
          refine WO_splitp 23 (p := ((byteAt l k).toNat : Int) < 48) (by exact rfl) (fun c3 => ?_) (fun c3 => ?_)
          · skip
            refine WO_pass rfl ?_
            refine WO_pass rfl ?_
            refine WO_pure (v := (.bool (true))) rfl rfl ?_
            refine WO_pure (v := (.bool (true))) rfl rfl ?_
            refine WO_pure (v := (.bool (true))) rfl rfl ?_
            refine WO_pure (v := (.int .u8 (((byteAt l k).toNat : Int)))) rfl rfl ?_
            refine WO_pure (v := (.bool (!decide (((byteAt l k).toNat : Int) = 95)))) rfl rfl ?_
            refine WO_pure (v := (.bool (!decide (((byteAt l k).toNat : Int) = 95)))) rfl rfl ?_
            refine WO_nil ?_
            exact ⟨rfl, rfl, rfl, (by show ((.bool (!decide (((byteAt l k).toNat : Int) = 95))) : Value) = (.bool (!smallB (byteAt l k))); show Value.bool _ = Value.bool _; rw [Value.bool.injEq, Bool.eq_iff_iff]; simp [smallB]; omega)⟩
          · skip
            refine WO_pure (v := (.int .u8 (((byteAt l k).toNat : Int)))) rfl rfl ?_
            refine WO_pure (v := (.bool (decide (57 < ((byteAt l k).toNat : Int))))) rfl rfl ?_
            refine WO_pure (v := (.bool (decide (57 < ((byteAt l k).toNat : Int))))) rfl rfl ?_
            refine WO_pure (v := (.bool (decide (57 < ((byteAt l k).toNat : Int))))) rfl rfl ?_
            refine WO_pure (v := (.bool (decide (57 < ((byteAt l k).toNat : Int))))) rfl rfl ?_
            refine WO_splitp 28 (p := 57 < ((byteAt l k).toNat : Int)) (by exact rfl) (fun c4 => ?_) (fun c4 => ?_)
            · skip
              refine WO_pure (v := (.int .u8 (((byteAt l k).toNat : Int)))) rfl rfl ?_
              refine WO_pure (v := (.bool (!decide (((byteAt l k).toNat : Int) = 95)))) rfl rfl ?_
              refine WO_pure (v := (.bool (!decide (((byteAt l k).toNat : Int) = 95)))) rfl rfl ?_
              refine WO_nil ?_
              exact ⟨rfl, rfl, rfl, (by show ((.bool (!decide (((byteAt l k).toNat : Int) = 95))) : Value) = (.bool (!smallB (byteAt l k))); show Value.bool _ = Value.bool _; rw [Value.bool.injEq, Bool.eq_iff_iff]; simp [smallB]; omega)⟩
            · skip
              refine WO_pass rfl ?_
              refine WO_pass rfl ?_
              refine WO_pure (v := (.bool (false))) rfl rfl ?_
              refine WO_nil ?_
              exact ⟨rfl, rfl, rfl, (by show ((.bool (false)) : Value) = (.bool (!smallB (byteAt l k))); show Value.bool _ = Value.bool _; rw [Value.bool.injEq, Bool.eq_iff_iff]; simp [smallB]; omega)⟩
        · skip
          refine WO_pure (v := (.int .u8 (((byteAt l k).toNat : Int)))) rfl rfl ?_
          refine WO_pure (v := (.bool (decide (122 < ((byteAt l k).toNat : Int))))) rfl rfl ?_
          refine WO_pure (v := (.bool (decide (122 < ((byteAt l k).toNat : Int))))) rfl rfl ?_
          refine WO_pure (v := (.bool (decide (122 < ((byteAt l k).toNat : Int))))) rfl rfl ?_
          refine WO_splitp 20 (p := 122 < ((byteAt l k).toNat : Int)) (by exact rfl) (fun c5 => ?_) (fun c5 => ?_)
          · skip
            refine WO_pure (v := (.int .u8 (((byteAt l k).toNat : Int)))) rfl rfl ?_
            refine WO_pure (v := (.bool (decide (((byteAt l k).toNat : Int) < 48)))) rfl rfl ?_
            refine WO_pure (v := (.bool (decide (((byteAt l k).toNat : Int) < 48)))) rfl rfl ?_
            refine WO_splitp 23 (p := ((byteAt l k).toNat : Int) < 48) (by exact rfl) (fun c6 => ?_) (fun c6 => ?_)
            · skip
              refine WO_pass rfl ?_
              refine WO_pass rfl ?_
              refine WO_pure (v := (.bool (true))) rfl rfl ?_
              refine WO_pure (v := (.bool (true))) rfl rfl ?_
              refine WO_pure (v := (.bool (true))) rfl rfl ?_
              refine WO_pure (v := (.int .u8 (((byteAt l k).toNat : Int)))) rfl rfl ?_
              refine WO_pure (v := (.bool (!decide (((byteAt l k).toNat : Int) = 95)))) rfl rfl ?_
              refine WO_pure (v := (.bool (!decide (((byteAt l k).toNat : Int) = 95)))) rfl rfl ?_
              refine WO_nil ?_
              exact ⟨rfl, rfl, rfl, (by show ((.bool (!decide (((byteAt l k).toNat : Int) = 95))) : Value) = (.bool (!smallB (byteAt l k))); show Value.bool _ = Value.bool _; rw [Value.bool.injEq, Bool.eq_iff_iff]; simp [smallB]; omega)⟩
            · skip
              refine WO_pure (v := (.int .u8 (((byteAt l k).toNat : Int)))) rfl rfl ?_
              refine WO_pure (v := (.bool (decide (57 < ((byteAt l k).toNat : Int))))) rfl rfl ?_
              refine WO_pure (v := (.bool (decide (57 < ((byteAt l k).toNat : Int))))) rfl rfl ?_
              refine WO_pure (v := (.bool (decide (57 < ((byteAt l k).toNat : Int))))) rfl rfl ?_
              refine WO_pure (v := (.bool (decide (57 < ((byteAt l k).toNat : Int))))) rfl rfl ?_
              refine WO_splitp 28 (p := 57 < ((byteAt l k).toNat : Int)) (by exact rfl) (fun c7 => ?_) (fun c7 => ?_)
              · skip
                refine WO_pure (v := (.int .u8 (((byteAt l k).toNat : Int)))) rfl rfl ?_
                refine WO_pure (v := (.bool (!decide (((byteAt l k).toNat : Int) = 95)))) rfl rfl ?_
                refine WO_pure (v := (.bool (!decide (((byteAt l k).toNat : Int) = 95)))) rfl rfl ?_
                refine WO_nil ?_
                exact ⟨rfl, rfl, rfl, (by show ((.bool (!decide (((byteAt l k).toNat : Int) = 95))) : Value) = (.bool (!smallB (byteAt l k))); show Value.bool _ = Value.bool _; rw [Value.bool.injEq, Bool.eq_iff_iff]; simp [smallB]; omega)⟩
              · skip
                refine WO_pass rfl ?_
                refine WO_pass rfl ?_
                refine WO_pure (v := (.bool (false))) rfl rfl ?_
                refine WO_nil ?_
                exact ⟨rfl, rfl, rfl, (by show ((.bool (false)) : Value) = (.bool (!smallB (byteAt l k))); show Value.bool _ = Value.bool _; rw [Value.bool.injEq, Bool.eq_iff_iff]; simp [smallB]; omega)⟩
          · skip
            refine WO_pass rfl ?_
            refine WO_pass rfl ?_
            refine WO_pass rfl ?_
            refine WO_pass rfl ?_
            refine WO_pass rfl ?_
            refine WO_pass rfl ?_
            refine WO_pure (v := (.bool (false))) rfl rfl ?_
            refine WO_pure (v := (.bool (false))) rfl rfl ?_
            refine WO_pass rfl ?_
            refine WO_pass rfl ?_
            refine WO_pure (v := (.bool (false))) rfl rfl ?_
            refine WO_nil ?_
            exact ⟨rfl, rfl, rfl, (by show ((.bool (false)) : Value) = (.bool (!smallB (byteAt l k))); show Value.bool _ = Value.bool _; rw [Value.bool.injEq, Bool.eq_iff_iff]; simp [smallB]; omega)⟩
      · rintro σ1 _ ⟨rfl, h1_0, h1_3, h1_31⟩
        refine W_anchor (d := 0) h1_0 (W_anchor (d := 3) h1_3 (W_anchor (d := 31) h1_31 (?_)))
        refine W_cond (t := !smallB (byteAt l k)) rfl (fun c8 => ?_) (fun c8 => ?_)
        · skip
          refine W_seq ?_
          refine W_reg ?_
          refine WO_pure (v := (.bool (false))) rfl rfl ?_
          refine WO_nil ?_
          refine W_ret ?_
          refine body_ret1 rfl (v0 := (.bool (false))) rfl ?_
          exact ⟨by rw [refnameB_no (k := k) (by omega) (by simpa using c8)], rfl⟩
        · skip
          refine W_skip ?_
          refine W_reg ?_
          refine WO_pure (v := (.int .i64 ((k : Int)))) rfl rfl ?_
          refine WO_add (v := (k : Int) + 1) rfl rfl rfl (by simp only [kLo, kHi]; omega) ?_
          refine WO_pure (v := (.int .i64 ((k : Int) + 1))) rfl rfl ?_
          refine WO_nil ?_
          refine ⟨_, ?_, k + 1, rfl, rfl, rfl, ?_, ?_, rfl⟩
          all_goals first | omega | exact all_take_snoc (by omega) f1_2 (by simpa using c8)
    · skip
      refine W_exit ?_
      refine W_cut (fun σ' w' => w = w' ∧ σ' 2 = (.bool ((decide (1 ≤ (l.length : Int))) && (decide ((l.length : Int) ≤ 20))))) ?_ ?_
      · refine W_reg ?_
        refine WO_pure (v := (S (l))) rfl rfl ?_
        refine WO_slen (l := l) rfl rfl Try.underlying9 ?_
        refine WO_pure (v := (.bool (decide (1 ≤ (l.length : Int))))) rfl rfl ?_
        refine WO_pure (v := (.bool (decide (1 ≤ (l.length : Int))))) rfl rfl ?_
        refine WO_splitp 35 (p := 1 ≤ (l.length : Int)) (by exact rfl) (fun c9 => ?_) (fun c9 => ?_)
        · skip
          refine WO_pure (v := (S (l))) rfl rfl ?_
          refine WO_slen (l := l) rfl rfl Try.underlying9 ?_
          refine WO_pure (v := (.bool (decide ((l.length : Int) ≤ 20)))) rfl rfl ?_
          refine WO_pure (v := (.bool (decide ((l.length : Int) ≤ 20)))) rfl rfl ?_
          refine WO_pure (v := (.bool (decide ((l.length : Int) ≤ 20)))) rfl rfl ?_
          refine WO_nil ?_
          exact ⟨rfl, (by show ((.bool (decide ((l.length : Int) ≤ 20))) : Value) = (.bool ((decide (1 ≤ (l.length : Int))) && (decide ((l.length : Int) ≤ 20)))); first | (simp [c9]; done) | (simp [c9]; omega) | (simp_all; done) | (simp_all; omega))⟩
        · skip
          refine WO_pass rfl ?_
          refine WO_pass rfl ?_
          refine WO_pass rfl ?_
          refine WO_pure (v := (.bool (false))) rfl rfl ?_
          refine WO_pure (v := (.bool (false))) rfl rfl ?_
          refine WO_nil ?_
          exact ⟨rfl, (by show ((.bool (false)) : Value) = (.bool ((decide (1 ≤ (l.length : Int))) && (decide ((l.length : Int) ≤ 20)))); first | (simp [c9]; done) | (simp [c9]; omega) | (simp_all; done) | (simp_all; omega))⟩
      · rintro σ2 _ ⟨rfl, h2_2⟩
        refine W_anchor (d := 2) h2_2 (?_)
        refine W_ret ?_
        refine body_ret1 rfl (v0 := (.bool ((decide (1 ≤ (l.length : Int))) && (decide ((l.length : Int) ≤ 20))))) rfl ?_
        exact ⟨by rw [refnameB_yes f1_2 (by omega)], rfl⟩


/-- A function value that tells a Boolean of a rune, and leaves the world alone. -/
def Tells (P : Program) (f : FuncId) (cap : List Value) (p : Int → Bool) : Prop :=
  ∀ (r : Nat) (w : World), r ≤ 1114111 → Calls P f (.int .i32 (r : Int) :: cap).toArray w (Ret fun v w' => v = .bool (p r) ∧ w = w')
theorem all_no {l : List UInt8} {p : UInt8 → Bool} {k : Nat} (h : k < l.length) (hc : p (byteAt l k) = false) : l.all p = false := by
  rw [List.all_eq_false]
  rw [byteAt_eq h] at hc
  exact ⟨l[k], List.getElem_mem _, by simpa using hc⟩
theorem rune_no {l : List UInt8} {p : Int → Bool} {k : Nat} (hp : ∀ r : Int, 128 ≤ r → p r = true) (h : k < l.length) (hc : p ((Utf8.decode ⟨l.toArray⟩ k).1 : Int) = true) :
    l.all (fun b => !p (b.toNat : Int)) = false := by
  refine all_no h ?_
  by_cases ha : (byteAt l k).toNat < 128
  · rw [decode_ascii' h ha] at hc; simp [hc]
  · simp [hp (byteAt l k).toNat (by omega)]
theorem rune_yes {l : List UInt8} {p : Int → Bool} {k : Nat} (hp : ∀ r : Int, 128 ≤ r → p r = true) (h : k < l.length) (hc : p ((Utf8.decode ⟨l.toArray⟩ k).1 : Int) = false) :
    (!p ((byteAt l k).toNat : Int)) = true ∧ (Utf8.decode ⟨l.toArray⟩ k).2 = 1 := by
  by_cases ha : (byteAt l k).toNat < 128
  · rw [decode_ascii' h ha] at hc ⊢; simp at hc ⊢; exact hc
  · have := (decode_high h (by omega)).1
    rw [hp _ (by omega)] at hc; cases hc
theorem decode_le {l : List UInt8} {k : Nat} (h : k < l.length) : (Utf8.decode ⟨l.toArray⟩ k).1 ≤ 1114111 := by
  by_cases ha : (byteAt l k).toNat < 128
  · rw [decode_ascii' h ha]; simp only; omega
  · exact (decode_high h (by omega)).2.1

set_option maxHeartbeats 400000 in
set_option maxRecDepth 100000 in
theorem indexFunc_any (l : List UInt8) (f : FuncId) (cap : Array Value) (p : Int → Bool) (w : World) (he : Enters Try.prog f) (ht : Tells Try.prog f cap.toList p) (hp : ∀ r : Int, 128 ≤ r → p r = true) (hl : l.length ≤ 9223372036854775807) :
    Calls Try.prog 30 #[(S (l)), (.func (.func f) #[] cap), (.bool (true))] w (Ret fun v w' => ∃ z : Int, v = .int .i64 z ∧ decide (z < 0) = l.all (fun b => !p (b.toNat : Int)) ∧ Below w.heap.size w w') := by
  refine calls_W Try.func30 rfl Try.ntmps30 ?_
  refine W_seq ?_
  refine W_reg ?_
  refine WO_pure (v := (.int .i64 (0))) rfl rfl ?_
  refine WO_nil ?_
  refine W_seq ?_
  refine W_seq ?_
  refine W_reg ?_
  refine WO_pure (v := (S (l))) rfl rfl ?_
  refine WO_srange (l := l) rfl rfl Try.underlying9 (fun w1 n1 => ?_)
  refine WO_nil ?_
  refine W_block ?_
  refine W_loop (fun g σ' w' => ∃ (k : Nat), σ' 1 = (.func (.func f) #[] cap) ∧ σ' 2 = (.bool (true)) ∧ σ' 10 = (.pointer (some ⟨w.heap.size, 0, none⟩)) ∧ Below w.heap.size w w' ∧ w'.heap[w.heap.size]? = some (.stringIter ⟨l.toArray⟩ k) ∧ k ≤ l.length ∧ (l.take k).all (fun b => !p (b.toNat : Int)) = true ∧ g = l.length - k) ?_ ?_
  · refine ⟨_, 0, rfl, rfl, rfl, ?_, ?_, ?_, ?_, rfl⟩
    · exact n1.ext
    · exact n1.here
    · omega
    · rfl
  · rintro g σl1 wl1 ⟨k, l1_1, l1_2, l1_10, f1_1, f1_2, f1_3, f1_4, rfl⟩
    refine W_anchor (d := 1) l1_1 (W_anchor (d := 2) l1_2 (W_anchor (d := 10) l1_10 (?_)))
    refine W_seq ?_
    refine W_reg ?_
    refine WO_snext (l := l) (p := k) rfl rfl f1_2 (fun q2 w2 u2 => ?_) (fun q2 => ?_)
    · skip
      refine WO_pure (v := (.bool (true))) rfl rfl ?_
      refine WO_nil ?_
      refine W_seq ?_
      refine W_true rfl ?_
      refine W_skip ?_
      refine W_block ?_
      refine W_seq ?_
      refine W_reg ?_
      refine WO_pure (v := (.int .i64 ((k : Int)))) rfl rfl ?_
      refine WO_pure (v := (.int .i32 (((Utf8.decode ⟨(l).toArray⟩ k).1 : Int)))) rfl rfl ?_
      refine WO_pure (v := (.int .i64 ((k : Int)))) rfl rfl ?_
      refine WO_pure (v := (.int .i32 (((Utf8.decode ⟨(l).toArray⟩ k).1 : Int)))) rfl rfl ?_
      refine WO_nil ?_
      refine W_seq ?_
      refine W_reg ?_
      refine WO_pure (v := (.func (.func f) #[] cap)) rfl rfl ?_
      refine WO_pure (v := (.int .i32 (((Utf8.decode ⟨(l).toArray⟩ k).1 : Int)))) rfl rfl ?_
      refine WO_callv rfl rfl he (ht _ _ (decode_le q2)) ?_
      rintro _ _ ⟨rfl, rfl⟩
      refine WO_pure (v := (.bool (true))) rfl rfl ?_
      refine WO_beql (a := p ((Utf8.decode ⟨l.toArray⟩ k).1 : Int)) (b := true) rfl rfl rfl Try.underlying4 ?_
      refine WO_nil ?_
      refine W_cond (t := (p ((Utf8.decode ⟨l.toArray⟩ k).1 : Int)) == true) rfl (fun c1 => ?_) (fun c1 => ?_)
      · skip
        refine W_seq ?_
        refine W_reg ?_
        refine WO_pure (v := (.int .i64 ((k : Int)))) rfl rfl ?_
        refine WO_pure (v := (.int .i64 ((k : Int)))) rfl rfl ?_
        refine WO_nil ?_
        refine W_ret ?_
        refine body_ret1 rfl (v0 := (.int .i64 ((k : Int)))) rfl ?_
        exact ⟨_, rfl, by rw [rune_no hp q2 (by simpa using c1)]; simp, u2.below f1_1 (Nat.le_refl _)⟩
      · skip
        refine W_skip ?_
        refine ⟨_, ?_, k + 1, rfl, rfl, rfl, ?_, ?_, ?_, ?_, rfl⟩
        · omega
        · exact u2.below f1_1 (Nat.le_refl _)
        · rw [← (rune_yes hp q2 (by simpa using c1)).2]; exact u2.here
        · omega
        · exact all_take_snoc q2 f1_4 (rune_yes hp q2 (by simpa using c1)).1
    · skip
      refine WO_pure (v := (.bool (false))) rfl rfl ?_
      refine WO_nil ?_
      refine W_seq ?_
      refine W_false rfl ?_
      refine W_exit ?_
      refine W_seq ?_
      refine W_reg ?_
      refine WO_pure (v := (.int .i64 (-1))) rfl rfl ?_
      refine WO_nil ?_
      refine W_ret ?_
      refine body_ret1 rfl (v0 := (.int .i64 (-1))) rfl ?_
      exact ⟨_, rfl, by rw [List.take_of_length_le (by omega)] at f1_4; rw [f1_4]; rfl, f1_1⟩

set_option maxHeartbeats 400000 in
set_option maxRecDepth 100000 in
theorem IndexFunc_any (l : List UInt8) (f : FuncId) (cap : Array Value) (p : Int → Bool) (w : World) (he : Enters Try.prog f) (ht : Tells Try.prog f cap.toList p) (hp : ∀ r : Int, 128 ≤ r → p r = true) (hl : l.length ≤ 9223372036854775807) :
    Calls Try.prog 24 #[(S (l)), (.func (.func f) #[] cap)] w (Ret fun v w' => ∃ z : Int, v = .int .i64 z ∧ decide (z < 0) = l.all (fun b => !p (b.toNat : Int)) ∧ Below w.heap.size w w') := by
  refine calls_W Try.func24 rfl Try.ntmps24 ?_
  refine W_seq ?_
  refine W_reg ?_
  refine WO_pure (v := (.int .i64 (0))) rfl rfl ?_
  refine WO_nil ?_
  refine W_seq ?_
  refine W_reg ?_
  refine WO_pure (v := (S (l))) rfl rfl ?_
  refine WO_pure (v := (.func (.func f) #[] cap)) rfl rfl ?_
  refine WO_call rfl (by exact en_30) (indexFunc_any l f cap p _ he ht hp hl) ?_
  rintro _ w1 ⟨z, rfl, hz, hb⟩
  refine WO_pure (v := (.int .i64 (z))) rfl rfl ?_
  refine WO_nil ?_
  refine W_ret ?_
  refine body_ret1 rfl (v0 := (.int .i64 (z))) rfl ?_
  exact ⟨_, rfl, hz, hb⟩


def smallR (r : Int) : Bool := (decide (97 ≤ r) && decide (r ≤ 122)) || (decide (48 ≤ r) && decide (r ≤ 57)) || decide (r = 95)
theorem smallR_byte (b : UInt8) : smallR (b.toNat : Int) = smallB b := by
  rw [Bool.eq_iff_iff]; simp [smallR, smallB]; omega

set_option maxHeartbeats 400000 in
set_option maxRecDepth 100000 in
theorem name1_any (r : Int) (w : World) :
    Calls Try.prog 23 #[(.int .i32 (r))] w (Ret fun v w' => v = .bool (!smallR r) ∧ w = w') := by
  refine calls_W Try.func23 rfl Try.ntmps23 ?_
  refine W_seq ?_
  refine W_reg ?_
  refine WO_pure (v := (.bool (false))) rfl rfl ?_
  refine WO_nil ?_
  refine W_cut (fun σ' w' => w = w' ∧ σ' 2 = (.bool (!smallR r))) ?_ ?_
  · refine W_reg ?_
    refine WO_pure (v := (.int .i32 (r))) rfl rfl ?_
    refine WO_pure (v := (.bool (decide (97 ≤ r)))) rfl rfl ?_
    refine WO_pure (v := (.bool (decide (97 ≤ r)))) rfl rfl ?_
    refine WO_splitp 5 (p := 97 ≤ r) (by exact rfl) (fun c1 => ?_) (fun c1 => ?_)
    · skip
      refine WO_pure (v := (.int .i32 (r))) rfl rfl ?_
      refine WO_pure (v := (.bool (decide (r ≤ 122)))) rfl rfl ?_
      refine WO_pure (v := (.bool (decide (r ≤ 122)))) rfl rfl ?_
      refine WO_pure (v := (.bool (decide (r ≤ 122)))) rfl rfl ?_
      refine WO_splitp 9 (p := r ≤ 122) (by exact rfl) (fun c2 => ?_) (fun c2 => ?_)
      · skip
        refine WO_pass rfl ?_
        refine WO_pass rfl ?_
        refine WO_pass rfl ?_
        refine WO_pass rfl ?_
        refine WO_pass rfl ?_
        refine WO_pass rfl ?_
        refine WO_pure (v := (.bool (true))) rfl rfl ?_
        refine WO_pure (v := (.bool (true))) rfl rfl ?_
        refine WO_pass rfl ?_
        refine WO_pass rfl ?_
        refine WO_pure (v := (.bool (true))) rfl rfl ?_
        refine WO_pure (v := (.bool (false))) rfl rfl ?_
        refine WO_pure (v := (.bool (false))) rfl rfl ?_
        refine WO_nil ?_
        exact ⟨rfl, (by show ((.bool (false)) : Value) = (.bool (!smallR r)); show Value.bool _ = Value.bool _; rw [Value.bool.injEq, Bool.eq_iff_iff]; simp [smallR]; omega)⟩
      · skip
        refine WO_pure (v := (.int .i32 (r))) rfl rfl ?_
        refine WO_pure (v := (.bool (decide (48 ≤ r)))) rfl rfl ?_
        refine WO_pure (v := (.bool (decide (48 ≤ r)))) rfl rfl ?_
        refine WO_splitp 12 (p := 48 ≤ r) (by exact rfl) (fun c3 => ?_) (fun c3 => ?_)
        · skip
          refine WO_pure (v := (.int .i32 (r))) rfl rfl ?_
          refine WO_pure (v := (.bool (decide (r ≤ 57)))) rfl rfl ?_
          refine WO_pure (v := (.bool (decide (r ≤ 57)))) rfl rfl ?_
          refine WO_pure (v := (.bool (decide (r ≤ 57)))) rfl rfl ?_
          refine WO_pure (v := (.bool (decide (r ≤ 57)))) rfl rfl ?_
          refine WO_splitp 17 (p := r ≤ 57) (by exact rfl) (fun c4 => ?_) (fun c4 => ?_)
          · skip
            refine WO_pass rfl ?_
            refine WO_pass rfl ?_
            refine WO_pure (v := (.bool (true))) rfl rfl ?_
            refine WO_pure (v := (.bool (false))) rfl rfl ?_
            refine WO_pure (v := (.bool (false))) rfl rfl ?_
            refine WO_nil ?_
            exact ⟨rfl, (by show ((.bool (false)) : Value) = (.bool (!smallR r)); show Value.bool _ = Value.bool _; rw [Value.bool.injEq, Bool.eq_iff_iff]; simp [smallR]; omega)⟩
          · skip
            refine WO_pure (v := (.int .i32 (r))) rfl rfl ?_
            refine WO_pure (v := (.bool (decide (r = 95)))) rfl rfl ?_
            refine WO_pure (v := (.bool (decide (r = 95)))) rfl rfl ?_
            refine WO_pure (v := (.bool (!(decide (r = 95))))) rfl rfl ?_
            refine WO_pure (v := (.bool (!(decide (r = 95))))) rfl rfl ?_
            refine WO_nil ?_
            exact ⟨rfl, (by show ((.bool (!(decide (r = 95)))) : Value) = (.bool (!smallR r)); show Value.bool _ = Value.bool _; rw [Value.bool.injEq, Bool.eq_iff_iff]; simp [smallR]; omega)⟩
        · skip
          refine WO_pass rfl ?_
          refine WO_pass rfl ?_
          refine WO_pure (v := (.bool (false))) rfl rfl ?_
          refine WO_pure (v := (.bool (false))) rfl rfl ?_
          refine WO_pure (v := (.bool (false))) rfl rfl ?_
          refine WO_pure (v := (.int .i32 (r))) rfl rfl ?_
          refine WO_pure (v := (.bool (decide (r = 95)))) rfl rfl ?_
          refine WO_pure (v := (.bool (decide (r = 95)))) rfl rfl ?_
          refine WO_pure (v := (.bool (!(decide (r = 95))))) rfl rfl ?_
          refine WO_pure (v := (.bool (!(decide (r = 95))))) rfl rfl ?_
          refine WO_nil ?_
          exact ⟨rfl, (by show ((.bool (!(decide (r = 95)))) : Value) = (.bool (!smallR r)); show Value.bool _ = Value.bool _; rw [Value.bool.injEq, Bool.eq_iff_iff]; simp [smallR]; omega)⟩
    · skip
      refine WO_pass rfl ?_
      refine WO_pass rfl ?_
      refine WO_pure (v := (.bool (false))) rfl rfl ?_
      refine WO_pure (v := (.bool (false))) rfl rfl ?_
      refine WO_pure (v := (.int .i32 (r))) rfl rfl ?_
      refine WO_pure (v := (.bool (decide (48 ≤ r)))) rfl rfl ?_
      refine WO_pure (v := (.bool (decide (48 ≤ r)))) rfl rfl ?_
      refine WO_splitp 12 (p := 48 ≤ r) (by exact rfl) (fun c5 => ?_) (fun c5 => ?_)
      · skip
        refine WO_pure (v := (.int .i32 (r))) rfl rfl ?_
        refine WO_pure (v := (.bool (decide (r ≤ 57)))) rfl rfl ?_
        refine WO_pure (v := (.bool (decide (r ≤ 57)))) rfl rfl ?_
        refine WO_pure (v := (.bool (decide (r ≤ 57)))) rfl rfl ?_
        refine WO_pure (v := (.bool (decide (r ≤ 57)))) rfl rfl ?_
        refine WO_splitp 17 (p := r ≤ 57) (by exact rfl) (fun c6 => ?_) (fun c6 => ?_)
        · skip
          refine WO_pass rfl ?_
          refine WO_pass rfl ?_
          refine WO_pure (v := (.bool (true))) rfl rfl ?_
          refine WO_pure (v := (.bool (false))) rfl rfl ?_
          refine WO_pure (v := (.bool (false))) rfl rfl ?_
          refine WO_nil ?_
          exact ⟨rfl, (by show ((.bool (false)) : Value) = (.bool (!smallR r)); show Value.bool _ = Value.bool _; rw [Value.bool.injEq, Bool.eq_iff_iff]; simp [smallR]; omega)⟩
        · skip
          refine WO_pure (v := (.int .i32 (r))) rfl rfl ?_
          refine WO_pure (v := (.bool (decide (r = 95)))) rfl rfl ?_
          refine WO_pure (v := (.bool (decide (r = 95)))) rfl rfl ?_
          refine WO_pure (v := (.bool (!(decide (r = 95))))) rfl rfl ?_
          refine WO_pure (v := (.bool (!(decide (r = 95))))) rfl rfl ?_
          refine WO_nil ?_
          exact ⟨rfl, (by show ((.bool (!(decide (r = 95)))) : Value) = (.bool (!smallR r)); show Value.bool _ = Value.bool _; rw [Value.bool.injEq, Bool.eq_iff_iff]; simp [smallR]; omega)⟩
      · skip
        refine WO_pass rfl ?_
        refine WO_pass rfl ?_
        refine WO_pure (v := (.bool (false))) rfl rfl ?_
        refine WO_pure (v := (.bool (false))) rfl rfl ?_
        refine WO_pure (v := (.bool (false))) rfl rfl ?_
        refine WO_pure (v := (.int .i32 (r))) rfl rfl ?_
        refine WO_pure (v := (.bool (decide (r = 95)))) rfl rfl ?_
        refine WO_pure (v := (.bool (decide (r = 95)))) rfl rfl ?_
        refine WO_pure (v := (.bool (!(decide (r = 95))))) rfl rfl ?_
        refine WO_pure (v := (.bool (!(decide (r = 95))))) rfl rfl ?_
        refine WO_nil ?_
        exact ⟨rfl, (by show ((.bool (!(decide (r = 95)))) : Value) = (.bool (!smallR r)); show Value.bool _ = Value.bool _; rw [Value.bool.injEq, Bool.eq_iff_iff]; simp [smallR]; omega)⟩
  · rintro σ1 _ ⟨rfl, h1_2⟩
    refine W_anchor (d := 2) h1_2 (?_)
    refine W_ret ?_
    refine body_ret1 rfl (v0 := (.bool (!smallR r))) rfl ?_
    exact ⟨rfl, rfl⟩


def archName (l : List UInt8) : Bool := !decide (l = []) && decide ((l.length : Int) ≤ 20) && l.all smallB
theorem archName_ref (l : List UInt8) : archName l = refnameB l := by
  unfold archName refnameB
  rw [Bool.eq_iff_iff]
  have h0 : ¬ l = [] ↔ 1 ≤ l.length := by rw [← List.length_eq_zero_iff]; omega
  have h1 : ((l.length : Int) ≤ 20) ↔ l.length ≤ 20 := by omega
  simp only [Bool.and_eq_true, Bool.not_eq_true', decide_eq_false_iff_not, decide_eq_true_eq, h0, h1]
  exact ⟨fun ⟨⟨a, b⟩, c⟩ => ⟨c, a, b⟩, fun ⟨c, a, b⟩ => ⟨⟨a, b⟩, c⟩⟩
theorem tells_name1 : Tells Try.prog 23 [] (fun r => !smallR r) := fun r w _ => name1_any _ w

end Go.Proofs.Ytcnmbdabnppbeaa
