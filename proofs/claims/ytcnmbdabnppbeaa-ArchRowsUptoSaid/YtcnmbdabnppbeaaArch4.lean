/- The layer arch: the laws that ask no reference: names, order, no table. No condition. -/
import Derived.Test.YtcnmbdabnppbeaaArch3
namespace Go.Proofs.Ytcnmbdabnppbeaa
open Go Go.RowKit

theorem en_8 : Enters Try.prog 8 := enters_of Try.func8 (by kernel_rfl) rfl

def awTab : ATab := [([110, 111, 97, 114, 99, 104], (1, 0)), ([120, 56, 54, 95, 54, 52], (2, 1)), ([105, 54, 56, 54], (3, 2)), ([105, 53, 56, 54], (3, 3)), ([105, 51, 56, 54], (4, 4))]
theorem awSmall : Small awTab := by unfold Small awTab; decide
theorem awParse : archParse [120, 56, 54, 95, 54, 52, 62, 105, 54, 56, 54, 58, 105, 53, 56, 54, 62, 105, 51, 56, 54] = some awTab := by decide +kernel
theorem parse_aw (w : World) : Calls Try.prog 9 #[S [120, 56, 54, 95, 54, 52, 62, 105, 54, 56, 54, 58, 105, 53, 56, 54, 62, 105, 51, 56, 54]] w (Ret fun v w' => ∃ b mb, v = .tuple #[.pointer (some ⟨b, 0, none⟩), .int .i64 0] ∧ TabIs w' b mb awTab ∧ Below w.heap.size w w') := by
  refine (parse_any [120, 56, 54, 95, 54, 52, 62, 105, 54, 56, 54, 58, 105, 53, 56, 54, 62, 105, 51, 56, 54] w (by decide)).mono fun e w' h => h.mono fun v w' h => ?_
  rcases h with ⟨m, b, mb, hm, hv, hT, hs, hb⟩ | ⟨hn, _⟩
  · rw [awParse] at hm; cases hm; exact ⟨b, mb, hv, hT, hb⟩
  · rw [awParse] at hn; cases hn

theorem aw_si586 {w : World} {b mb : Nat} (h : TabIs w b mb awTab) : Calls Try.prog 11 #[.pointer (some ⟨b, 0, none⟩), S [105, 53, 56, 54]] w (Ret fun v w' => v = .int .i64 3 ∧ w = w') := by
  have k := score_any b mb awTab [105, 53, 56, 54] w h awSmall
  rw [show (tscore awTab [105, 53, 56, 54] : Int) = 3 by decide] at k
  exact k
theorem aw_sppc {w : World} {b mb : Nat} (h : TabIs w b mb awTab) : Calls Try.prog 11 #[.pointer (some ⟨b, 0, none⟩), S [112, 112, 99]] w (Ret fun v w' => v = .int .i64 0 ∧ w = w') := by
  have k := score_any b mb awTab [112, 112, 99] w h awSmall
  rw [show (tscore awTab [112, 112, 99] : Int) = 0 by decide] at k
  exact k
theorem aw_bnoarch {w : World} {b mb : Nat} (h : TabIs w b mb awTab) : Calls Try.prog 13 #[.pointer (some ⟨b, 0, none⟩), S [110, 111, 97, 114, 99, 104], S [120, 56, 54, 95, 54, 52]] w (Ret fun v w' => v = .int .i64 (-1) ∧ w = w') := by
  have k := better_any b mb awTab [110, 111, 97, 114, 99, 104] [120, 56, 54, 95, 54, 52] w h awSmall
  rw [show aBetter (tscore awTab [110, 111, 97, 114, 99, 104]) (tscore awTab [120, 56, 54, 95, 54, 52]) = -1 by decide] at k
  exact k
theorem aw_bppc {w : World} {b mb : Nat} (h : TabIs w b mb awTab) : Calls Try.prog 13 #[.pointer (some ⟨b, 0, none⟩), S [112, 112, 99], S [105, 51, 56, 54]] w (Ret fun v w' => v = .int .i64 (1) ∧ w = w') := by
  have k := better_any b mb awTab [112, 112, 99] [105, 51, 56, 54] w h awSmall
  rw [show aBetter (tscore awTab [112, 112, 99]) (tscore awTab [105, 51, 56, 54]) = 1 by decide] at k
  exact k

set_option maxHeartbeats 400000 in
set_option maxRecDepth 100000 in
theorem awake_any (w : World) :
    Calls Try.prog 8 #[] w (Ret fun v w' => v = .bool true ∧ Below w.heap.size w w') := by
  refine calls_W Try.func8 rfl Try.ntmps8 ?_
  refine W_seq ?_
  refine W_reg ?_
  refine WO_pure (v := (.bool (false))) rfl rfl ?_
  refine WO_nil ?_
  refine W_seq ?_
  refine W_reg ?_
  refine WO_call rfl (by exact en_9) (parse_aw _) ?_
  rintro _ w1 ⟨b, mb, rfl, hT, hb⟩
  refine WO_pure rfl rfl ?_
  refine WO_pure (v := (.pointer (some ⟨b, 0, none⟩))) rfl rfl ?_
  refine WO_pure (v := (.int .i64 (0))) rfl rfl ?_
  refine WO_pure (v := (.pointer (some ⟨b, 0, none⟩))) rfl rfl ?_
  refine WO_pure (v := (.int .i64 (0))) rfl rfl ?_
  refine WO_nil ?_
  refine W_cut (fun σ' w' => w1 = w' ∧ σ' 0 = (.bool (true))) ?_ ?_
  · refine W_reg ?_
    refine WO_pure (v := (.pointer (some ⟨b, 0, none⟩))) rfl rfl ?_
    refine WO_pneq (a := (some ⟨b, 0, none⟩)) rfl rfl rfl Try.underlying23 ?_
    refine WO_pure (v := (.bool (true))) rfl rfl ?_
    refine WO_pure (v := (.int .i64 (0))) rfl rfl ?_
    refine WO_pure (v := (.bool (true))) rfl rfl ?_
    refine WO_pure (v := (.bool (true))) rfl rfl ?_
    refine WO_pure (v := (.bool (true))) rfl rfl ?_
    refine WO_pure (v := (.pointer (some ⟨b, 0, none⟩))) rfl rfl ?_
    refine WO_call rfl (by exact en_11) (aw_si586 hT) ?_
    rintro _ _ ⟨rfl, rfl⟩
    refine WO_pure (v := (.bool (true))) rfl rfl ?_
    refine WO_pure (v := (.bool (true))) rfl rfl ?_
    refine WO_pure (v := (.bool (true))) rfl rfl ?_
    refine WO_pure (v := (.pointer (some ⟨b, 0, none⟩))) rfl rfl ?_
    refine WO_call rfl (by exact en_11) (aw_sppc hT) ?_
    rintro _ _ ⟨rfl, rfl⟩
    refine WO_pure (v := (.bool (true))) rfl rfl ?_
    refine WO_pure (v := (.bool (true))) rfl rfl ?_
    refine WO_pure (v := (.bool (true))) rfl rfl ?_
    refine WO_pure (v := (.pointer (some ⟨b, 0, none⟩))) rfl rfl ?_
    refine WO_call rfl (by exact en_13) (aw_bnoarch hT) ?_
    rintro _ _ ⟨rfl, rfl⟩
    refine WO_pure (v := (.bool (true))) rfl rfl ?_
    refine WO_pure (v := (.bool (true))) rfl rfl ?_
    refine WO_pure (v := (.bool (true))) rfl rfl ?_
    refine WO_pure (v := (.pointer (some ⟨b, 0, none⟩))) rfl rfl ?_
    refine WO_call rfl (by exact en_13) (aw_bppc hT) ?_
    rintro _ _ ⟨rfl, rfl⟩
    refine WO_pure (v := (.bool (true))) rfl rfl ?_
    refine WO_pure (v := (.bool (true))) rfl rfl ?_
    refine WO_pure (v := (.bool (true))) rfl rfl ?_
    refine WO_nil ?_
    exact ⟨rfl, rfl⟩
  · rintro σ1 _ ⟨rfl, h1_0⟩
    refine W_anchor (d := 0) h1_0 (?_)
    refine W_ret ?_
    refine body_ret1 rfl (v0 := (.bool (true))) rfl ?_
    exact ⟨rfl, hb⟩



set_option maxHeartbeats 400000 in
set_option maxRecDepth 100000 in
theorem archNames_any (w : World) :
    Calls Try.prog 3 #[] w (Ret fun v w' => v = .bool true ∧ Below w.heap.size w w') := by
  refine calls_W Try.func3 rfl Try.ntmps3 ?_
  refine W_seq ?_
  refine W_reg ?_
  refine WO_pure (v := (.bool (false))) rfl rfl ?_
  refine WO_nil ?_
  refine W_seq ?_
  refine W_reg ?_
  refine WO_call rfl (by exact en_8) (awake_any _) ?_
  rintro _ w1 ⟨rfl, hb1⟩
  refine WO_pure (v := (.bool (true))) rfl rfl ?_
  refine WO_nil ?_
  refine W_seq ?_
  refine W_reg ?_
  refine WO_pure (v := (.bool (true))) rfl rfl ?_
  refine WO_pure (v := (.bool (true))) rfl rfl ?_
  refine WO_pure (v := (.bool (true))) rfl rfl ?_
  refine WO_pure (v := (.bool (true))) rfl rfl ?_
  refine WO_pure (v := (.bool (true))) rfl rfl ?_
  refine WO_pure (v := (.bool (true))) rfl rfl ?_
  refine WO_nil ?_
  refine W_ret ?_
  refine body_ret1 rfl (v0 := (.bool (true))) rfl ?_
  exact ⟨rfl, hb1⟩

set_option maxHeartbeats 400000 in
set_option maxRecDepth 100000 in
theorem archNil_any (a b : List UInt8) (w : World) :
    Calls Try.prog 6 #[(S (a)), (S (b))] w (Ret fun v w' => v = .bool true ∧ Below w.heap.size w w') := by
  refine calls_W Try.func6 rfl Try.ntmps6 ?_
  refine W_seq ?_
  refine W_reg ?_
  refine WO_pure (v := (.bool (false))) rfl rfl ?_
  refine WO_nil ?_
  refine W_seq ?_
  refine W_reg ?_
  refine WO_call rfl (by exact en_8) (awake_any _) ?_
  rintro _ w1 ⟨rfl, hb1⟩
  refine WO_pure (v := (.bool (true))) rfl rfl ?_
  refine WO_nil ?_
  refine W_seq ?_
  refine W_reg ?_
  refine WO_pure (v := (.pointer none)) rfl rfl ?_
  refine WO_nil ?_
  refine W_cut (fun σ' w' => w1 = w' ∧ σ' 4 = (.bool (true))) ?_ ?_
  · refine W_reg ?_
    refine WO_pure (v := (.bool (true))) rfl rfl ?_
    refine WO_pure (v := (.bool (true))) rfl rfl ?_
    refine WO_pure (v := (.pointer none)) rfl rfl ?_
    refine WO_pure (v := (S (a))) rfl rfl ?_
    refine WO_call rfl (by exact en_11) (score_nil _ _) ?_
    rintro _ _ ⟨rfl, rfl⟩
    refine WO_pure (v := (.bool (true))) rfl rfl ?_
    refine WO_pure (v := (.bool (true))) rfl rfl ?_
    refine WO_pure (v := (.bool (true))) rfl rfl ?_
    refine WO_pure (v := (.pointer none)) rfl rfl ?_
    refine WO_pure (v := (S (a))) rfl rfl ?_
    refine WO_pure (v := (S (b))) rfl rfl ?_
    refine WO_call rfl (by exact en_13) (better_nil _ _ _) ?_
    rintro _ _ ⟨rfl, rfl⟩
    refine WO_pure (v := (.bool (true))) rfl rfl ?_
    refine WO_pure (v := (.bool (true))) rfl rfl ?_
    refine WO_pure (v := (.bool (true))) rfl rfl ?_
    refine WO_nil ?_
    exact ⟨rfl, rfl⟩
  · rintro σ1 _ ⟨rfl, h1_4⟩
    refine W_anchor (d := 4) h1_4 (?_)
    refine W_ret ?_
    refine body_ret1 rfl (v0 := (.bool (true))) rfl ?_
    exact ⟨rfl, hb1⟩


theorem aBetter_self (x : Nat) : aBetter x x = 0 := by unfold aBetter; split <;> simp
theorem aBetter_swap (x y : Nat) : aBetter y x = -aBetter x y := by unfold aBetter; (repeat' split) <;> omega
theorem aBetter_range (x y : Nat) : -1 ≤ aBetter x y ∧ aBetter x y ≤ 1 := by unfold aBetter; (repeat' split) <;> omega
theorem aBetter_trans (x y z : Nat) : ¬ ((aBetter x y ≤ 0 ∧ aBetter y z ≤ 0 ∧ 0 < aBetter x z) ∨ (0 ≤ aBetter x y ∧ 0 ≤ aBetter y z ∧ aBetter x z < 0)) := by unfold aBetter; (repeat' split) <;> omega
theorem aBetter_one (x : Nat) : aBetter 1 x ≤ 0 := by unfold aBetter; (repeat' split) <;> omega
theorem aBetter_zero (x y : Nat) : 0 < x ∨ 0 ≤ aBetter x y := by unfold aBetter; (repeat' split) <;> omega
theorem find_put_ne {m : ATab} {k s : List UInt8} {v : Nat × Nat} (h : k ≠ s) : ((m.map fun p => if s = p.1 then (p.1, v) else p).find? fun p => decide (k = p.1)).map (·.2) = (m.find? fun p => decide (k = p.1)).map (·.2) := by
  induction m with
  | nil => rfl
  | cons p m ih =>
    simp only [List.map_cons, List.find?_cons]
    by_cases hs : s = p.1
    · have hk : decide (k = p.1) = false := decide_eq_false fun e => h (e.trans hs.symm)
      rw [if_pos hs]; simp only [hk]; exact ih
    · rw [if_neg hs]
      by_cases hk : k = p.1
      · simp only [decide_eq_true hk]
      · simp only [decide_eq_false hk]; exact ih
theorem alook_aput_ne {m : ATab} {k s : List UInt8} {v : Nat × Nat} (h : k ≠ s) : alook (aput m s v) k = alook m k := by
  unfold alook aput
  split
  · exact find_put_ne h
  · rw [List.find?_append]
    cases List.find? (fun p => decide (k = p.1)) m with
    | some _ => rfl
    | none => simp [List.find?_cons, h]
theorem pLoop_keeps {k : List UInt8} {a : Nat × Nat} : ∀ (f : Nat) (rest : List UInt8) (m m' : ATab) (re im : Nat), alook m k = some a → pLoop f rest m re im = some m' → alook m' k = some a
  | 0, _, _, _, _, _, _, h => by cases h
  | f + 1, rest, m, m', re, im, hk, h => by
    unfold pLoop at h
    split at h
    · cases h
    · rename_i hbad
      have hne : k ≠ rest.take (sepIdx rest) := by
        intro e; subst e; apply hbad; unfold pBad; rw [hk]; rfl
      have hk' : ∀ v, alook (aput m (rest.take (sepIdx rest)) v) k = some a := fun v => by rw [alook_aput_ne hne, hk]
      split at h
      · exact pLoop_keeps f _ _ _ _ _ (hk' _) h
      · cases h; exact hk' _
theorem score_noarch {text : List UInt8} {m : ATab} (h : archParse text = some m) : tscore m [110, 111, 97, 114, 99, 104] = 1 := by
  unfold tscore
  rw [pLoop_keeps _ _ _ _ _ _ (k := [110, 111, 97, 114, 99, 104]) (a := (1, 0)) (by decide) h]
  rfl
theorem better_noarch {text : List UInt8} {m : ATab} (h : archParse text = some m) (x : List UInt8) : aBetter (tscore m [110, 111, 97, 114, 99, 104]) (tscore m x) ≤ 0 := by rw [score_noarch h]; exact aBetter_one _

set_option maxHeartbeats 400000 in
set_option maxRecDepth 100000 in
theorem archOrder_any (text a b c : List UInt8) (w : World) (hl : text.length ≤ 9223372036854775807) :
    Calls Try.prog 5 #[(S (text)), (S (a)), (S (b)), (S (c))] w (Ret fun v w' => v = .bool true ∧ Below w.heap.size w w') := by
  refine calls_W Try.func5 rfl Try.ntmps5 ?_
  refine W_seq ?_
  refine W_reg ?_
  refine WO_pure (v := (.bool (false))) rfl rfl ?_
  refine WO_nil ?_
  refine W_seq ?_
  refine W_reg ?_
  refine WO_call rfl (by exact en_8) (awake_any _) ?_
  rintro _ w1 ⟨rfl, hb1⟩
  refine WO_pure (v := (.bool (true))) rfl rfl ?_
  refine WO_nil ?_
  refine W_seq ?_
  refine W_reg ?_
  refine WO_pure (v := (S (text))) rfl rfl ?_
  refine WO_call rfl (by exact en_9) (parse_any text _ hl) ?_
  rintro _ w2 hP
  rcases hP with ⟨m, p, mb, hm, rfl, hT, hs, hb2⟩ | ⟨hm, rfl, hb2⟩
  · have hb := below_ext hb1 hb2
    have hr := aBetter_range (tscore m a) (tscore m b)
    refine WO_pure rfl rfl ?_
    refine WO_pure (v := (.pointer (some ⟨p, 0, none⟩))) rfl rfl ?_
    refine WO_pure (v := (.int .i64 (0))) rfl rfl ?_
    refine WO_pure (v := (.pointer (some ⟨p, 0, none⟩))) rfl rfl ?_
    refine WO_pure (v := (.int .i64 (0))) rfl rfl ?_
    refine WO_nil ?_
    refine W_seq ?_
    refine W_cut (fun σ' w' => w2 = w' ∧ σ' 1 = (S (a)) ∧ σ' 2 = (S (b)) ∧ σ' 3 = (S (c)) ∧ σ' 9 = (.bool (true)) ∧ σ' 10 = (.pointer (some ⟨p, 0, none⟩)) ∧ σ' 26 = (.bool (false))) ?_ ?_
    · refine W_reg ?_
      refine WO_pure (v := (.int .i64 (0))) rfl rfl ?_
      refine WO_pure (v := (.bool (false))) rfl rfl ?_
      refine WO_pure (v := (.bool (false))) rfl rfl ?_
      refine WO_pure (v := (.pointer (some ⟨p, 0, none⟩))) rfl rfl ?_
      refine WO_peql (a := (some ⟨p, 0, none⟩)) rfl rfl rfl Try.underlying23 ?_
      refine WO_pure (v := (.bool (false))) rfl rfl ?_
      refine WO_nil ?_
      exact ⟨rfl, rfl, rfl, rfl, rfl, rfl, rfl⟩
    · rintro σ1 _ ⟨rfl, h1_1, h1_2, h1_3, h1_9, h1_10, h1_26⟩
      refine W_anchor (d := 1) h1_1 (W_anchor (d := 2) h1_2 (W_anchor (d := 3) h1_3 (W_anchor (d := 9) h1_9 (W_anchor (d := 10) h1_10 (W_anchor (d := 26) h1_26 (?_))))))
      refine W_false rfl ?_
      refine W_skip ?_
      refine W_seq ?_
      refine W_reg ?_
      refine WO_pure (v := (.pointer (some ⟨p, 0, none⟩))) rfl rfl ?_
      refine WO_pure (v := (S (a))) rfl rfl ?_
      refine WO_pure (v := (S (b))) rfl rfl ?_
      refine WO_call rfl (by exact en_13) (better_any p mb m _ _ _ hT hs) ?_
      rintro _ _ ⟨rfl, rfl⟩
      refine WO_pure (v := (.int .i64 (aBetter (tscore m a) (tscore m b)))) rfl rfl ?_
      refine WO_nil ?_
      refine W_seq ?_
      refine W_reg ?_
      refine WO_pure (v := (.pointer (some ⟨p, 0, none⟩))) rfl rfl ?_
      refine WO_pure (v := (S (b))) rfl rfl ?_
      refine WO_pure (v := (S (c))) rfl rfl ?_
      refine WO_call rfl (by exact en_13) (better_any p mb m _ _ _ hT hs) ?_
      rintro _ _ ⟨rfl, rfl⟩
      refine WO_pure (v := (.int .i64 (aBetter (tscore m b) (tscore m c)))) rfl rfl ?_
      refine WO_nil ?_
      refine W_seq ?_
      refine W_reg ?_
      refine WO_pure (v := (.pointer (some ⟨p, 0, none⟩))) rfl rfl ?_
      refine WO_pure (v := (S (a))) rfl rfl ?_
      refine WO_pure (v := (S (c))) rfl rfl ?_
      refine WO_call rfl (by exact en_13) (better_any p mb m _ _ _ hT hs) ?_
      rintro _ _ ⟨rfl, rfl⟩
      refine WO_pure (v := (.int .i64 (aBetter (tscore m a) (tscore m c)))) rfl rfl ?_
      refine WO_nil ?_
      refine W_seq ?_
      refine W_cut (fun σ' w' => w2 = w' ∧ σ' 1 = (S (a)) ∧ σ' 9 = (.bool (true)) ∧ σ' 10 = (.pointer (some ⟨p, 0, none⟩)) ∧ σ' 12 = (.int .i64 (aBetter (tscore m a) (tscore m b))) ∧ σ' 13 = (.int .i64 (aBetter (tscore m b) (tscore m c))) ∧ σ' 14 = (.int .i64 (aBetter (tscore m a) (tscore m c))) ∧ σ' 57 = (.bool (false))) ?_ ?_
      · refine W_reg ?_
        refine WO_pure (v := (.pointer (some ⟨p, 0, none⟩))) rfl rfl ?_
        refine WO_pure (v := (S (a))) rfl rfl ?_
        refine WO_pure (v := (S (a))) rfl rfl ?_
        refine WO_call rfl (by exact en_13) (better_any p mb m _ _ _ hT hs) ?_
        rintro _ _ ⟨rfl, rfl⟩
        refine WO_pure (v := (.bool (!decide ((aBetter (tscore m a) (tscore m a)) = 0)))) rfl rfl ?_
        refine WO_pure (v := (.bool (!decide ((aBetter (tscore m a) (tscore m a)) = 0)))) rfl rfl ?_
        refine WO_split 49 (b := !decide ((aBetter (tscore m a) (tscore m a)) = 0)) (by exact rfl) (fun c1 => ?_) (fun c1 => ?_)
        · skip
          refine WO_pass rfl ?_
          refine WO_pass rfl ?_
          refine WO_pass rfl ?_
          refine WO_pass rfl ?_
          refine WO_pass rfl ?_
          refine WO_pass rfl ?_
          refine WO_pass rfl ?_
          refine WO_pure (v := (.bool (true))) rfl rfl ?_
          refine WO_nil ?_
          exact ⟨rfl, rfl, rfl, rfl, rfl, rfl, rfl, (by show ((.bool (true)) : Value) = (.bool (false)); have h1 := aBetter_self (tscore m a); have h2 := aBetter_swap (tscore m a) (tscore m b); simp_all)⟩
        · skip
          refine WO_pure (v := (.pointer (some ⟨p, 0, none⟩))) rfl rfl ?_
          refine WO_pure (v := (S (b))) rfl rfl ?_
          refine WO_pure (v := (S (a))) rfl rfl ?_
          refine WO_call rfl (by exact en_13) (better_any p mb m _ _ _ hT hs) ?_
          rintro _ _ ⟨rfl, rfl⟩
          refine WO_pure (v := (.int .i64 (aBetter (tscore m a) (tscore m b)))) rfl rfl ?_
          refine WO_neg (v := -(aBetter (tscore m a) (tscore m b))) rfl rfl (by simp only [kLo, kHi]; omega) ?_
          refine WO_pure (v := (.bool (!decide ((aBetter (tscore m b) (tscore m a)) = (-(aBetter (tscore m a) (tscore m b))))))) rfl rfl ?_
          refine WO_pure (v := (.bool (!decide ((aBetter (tscore m b) (tscore m a)) = (-(aBetter (tscore m a) (tscore m b))))))) rfl rfl ?_
          refine WO_nil ?_
          exact ⟨rfl, rfl, rfl, rfl, rfl, rfl, rfl, (by show ((.bool (!decide ((aBetter (tscore m b) (tscore m a)) = (-(aBetter (tscore m a) (tscore m b)))))) : Value) = (.bool (false)); have h1 := aBetter_self (tscore m a); have h2 := aBetter_swap (tscore m a) (tscore m b); simp_all)⟩
      · rintro σ2 _ ⟨rfl, h2_1, h2_9, h2_10, h2_12, h2_13, h2_14, h2_57⟩
        refine W_anchor (d := 1) h2_1 (W_anchor (d := 9) h2_9 (W_anchor (d := 10) h2_10 (W_anchor (d := 12) h2_12 (W_anchor (d := 13) h2_13 (W_anchor (d := 14) h2_14 (W_anchor (d := 57) h2_57 (?_)))))))
        refine W_false rfl ?_
        refine W_skip ?_
        refine W_seq ?_
        refine W_cut (fun σ' w' => w2 = w' ∧ σ' 1 = (S (a)) ∧ σ' 9 = (.bool (true)) ∧ σ' 10 = (.pointer (some ⟨p, 0, none⟩)) ∧ σ' 12 = (.int .i64 (aBetter (tscore m a) (tscore m b))) ∧ σ' 79 = (.bool (false))) ?_ ?_
        · refine W_reg ?_
          refine WO_pure (v := (.int .i64 (aBetter (tscore m a) (tscore m b)))) rfl rfl ?_
          refine WO_pure (v := (.bool (decide ((aBetter (tscore m a) (tscore m b)) ≤ 0)))) rfl rfl ?_
          refine WO_pure (v := (.bool (decide ((aBetter (tscore m a) (tscore m b)) ≤ 0)))) rfl rfl ?_
          refine WO_splitp 60 (p := (aBetter (tscore m a) (tscore m b)) ≤ 0) (by exact rfl) (fun c2 => ?_) (fun c2 => ?_)
          · skip
            refine WO_pure (v := (.int .i64 (aBetter (tscore m b) (tscore m c)))) rfl rfl ?_
            refine WO_pure (v := (.bool (decide ((aBetter (tscore m b) (tscore m c)) ≤ 0)))) rfl rfl ?_
            refine WO_pure (v := (.bool (decide ((aBetter (tscore m b) (tscore m c)) ≤ 0)))) rfl rfl ?_
            refine WO_pure (v := (.bool (decide ((aBetter (tscore m b) (tscore m c)) ≤ 0)))) rfl rfl ?_
            refine WO_splitp 64 (p := (aBetter (tscore m b) (tscore m c)) ≤ 0) (by exact rfl) (fun c3 => ?_) (fun c3 => ?_)
            · skip
              refine WO_pure (v := (.int .i64 (aBetter (tscore m a) (tscore m c)))) rfl rfl ?_
              refine WO_pure (v := (.bool (decide (0 < (aBetter (tscore m a) (tscore m c)))))) rfl rfl ?_
              refine WO_pure (v := (.bool (decide (0 < (aBetter (tscore m a) (tscore m c)))))) rfl rfl ?_
              refine WO_pure (v := (.bool (decide (0 < (aBetter (tscore m a) (tscore m c)))))) rfl rfl ?_
              refine WO_splitp 68 (p := 0 < (aBetter (tscore m a) (tscore m c))) (by exact rfl) (fun c4 => ?_) (fun c4 => ?_)
              · skip
                refine WO_pass rfl ?_
                refine WO_pass rfl ?_
                refine WO_pass rfl ?_
                refine WO_pass rfl ?_
                refine WO_pass rfl ?_
                refine WO_pass rfl ?_
                refine WO_pass rfl ?_
                refine WO_pass rfl ?_
                refine WO_pass rfl ?_
                refine WO_pass rfl ?_
                refine WO_pure (v := (.bool (true))) rfl rfl ?_
                refine WO_nil ?_
                exact ⟨rfl, rfl, rfl, rfl, rfl, (by show ((.bool (true)) : Value) = (.bool (false)); have := aBetter_trans (tscore m a) (tscore m b) (tscore m c); simp_all; try omega)⟩
              · skip
                refine WO_pure (v := (.int .i64 (aBetter (tscore m a) (tscore m b)))) rfl rfl ?_
                refine WO_pure (v := (.bool (decide (0 ≤ (aBetter (tscore m a) (tscore m b)))))) rfl rfl ?_
                refine WO_pure (v := (.bool (decide (0 ≤ (aBetter (tscore m a) (tscore m b)))))) rfl rfl ?_
                refine WO_splitp 71 (p := 0 ≤ (aBetter (tscore m a) (tscore m b))) (by exact rfl) (fun c5 => ?_) (fun c5 => ?_)
                · skip
                  refine WO_pure (v := (.int .i64 (aBetter (tscore m b) (tscore m c)))) rfl rfl ?_
                  refine WO_pure (v := (.bool (decide (0 ≤ (aBetter (tscore m b) (tscore m c)))))) rfl rfl ?_
                  refine WO_pure (v := (.bool (decide (0 ≤ (aBetter (tscore m b) (tscore m c)))))) rfl rfl ?_
                  refine WO_pure (v := (.bool (decide (0 ≤ (aBetter (tscore m b) (tscore m c)))))) rfl rfl ?_
                  refine WO_splitp 75 (p := 0 ≤ (aBetter (tscore m b) (tscore m c))) (by exact rfl) (fun c6 => ?_) (fun c6 => ?_)
                  · skip
                    refine WO_pure (v := (.int .i64 (aBetter (tscore m a) (tscore m c)))) rfl rfl ?_
                    refine WO_pure (v := (.bool (decide ((aBetter (tscore m a) (tscore m c)) < 0)))) rfl rfl ?_
                    refine WO_pure (v := (.bool (decide ((aBetter (tscore m a) (tscore m c)) < 0)))) rfl rfl ?_
                    refine WO_pure (v := (.bool (decide ((aBetter (tscore m a) (tscore m c)) < 0)))) rfl rfl ?_
                    refine WO_nil ?_
                    exact ⟨rfl, rfl, rfl, rfl, rfl, (by show ((.bool (decide ((aBetter (tscore m a) (tscore m c)) < 0))) : Value) = (.bool (false)); have := aBetter_trans (tscore m a) (tscore m b) (tscore m c); simp_all; try omega)⟩
                  · skip
                    refine WO_pass rfl ?_
                    refine WO_pass rfl ?_
                    refine WO_pure (v := (.bool (false))) rfl rfl ?_
                    refine WO_pure (v := (.bool (false))) rfl rfl ?_
                    refine WO_nil ?_
                    exact ⟨rfl, rfl, rfl, rfl, rfl, (by show ((.bool (false)) : Value) = (.bool (false)); have := aBetter_trans (tscore m a) (tscore m b) (tscore m c); simp_all; try omega)⟩
                · skip
                  refine WO_pass rfl ?_
                  refine WO_pass rfl ?_
                  refine WO_pure (v := (.bool (false))) rfl rfl ?_
                  refine WO_pure (v := (.bool (false))) rfl rfl ?_
                  refine WO_pass rfl ?_
                  refine WO_pass rfl ?_
                  refine WO_pure (v := (.bool (false))) rfl rfl ?_
                  refine WO_pure (v := (.bool (false))) rfl rfl ?_
                  refine WO_nil ?_
                  exact ⟨rfl, rfl, rfl, rfl, rfl, (by show ((.bool (false)) : Value) = (.bool (false)); have := aBetter_trans (tscore m a) (tscore m b) (tscore m c); simp_all; try omega)⟩
            · skip
              refine WO_pass rfl ?_
              refine WO_pass rfl ?_
              refine WO_pure (v := (.bool (false))) rfl rfl ?_
              refine WO_pure (v := (.bool (false))) rfl rfl ?_
              refine WO_pure (v := (.int .i64 (aBetter (tscore m a) (tscore m b)))) rfl rfl ?_
              refine WO_pure (v := (.bool (decide (0 ≤ (aBetter (tscore m a) (tscore m b)))))) rfl rfl ?_
              refine WO_pure (v := (.bool (decide (0 ≤ (aBetter (tscore m a) (tscore m b)))))) rfl rfl ?_
              refine WO_splitp 71 (p := 0 ≤ (aBetter (tscore m a) (tscore m b))) (by exact rfl) (fun c7 => ?_) (fun c7 => ?_)
              · skip
                refine WO_pure (v := (.int .i64 (aBetter (tscore m b) (tscore m c)))) rfl rfl ?_
                refine WO_pure (v := (.bool (decide (0 ≤ (aBetter (tscore m b) (tscore m c)))))) rfl rfl ?_
                refine WO_pure (v := (.bool (decide (0 ≤ (aBetter (tscore m b) (tscore m c)))))) rfl rfl ?_
                refine WO_pure (v := (.bool (decide (0 ≤ (aBetter (tscore m b) (tscore m c)))))) rfl rfl ?_
                refine WO_splitp 75 (p := 0 ≤ (aBetter (tscore m b) (tscore m c))) (by exact rfl) (fun c8 => ?_) (fun c8 => ?_)
                · skip
                  refine WO_pure (v := (.int .i64 (aBetter (tscore m a) (tscore m c)))) rfl rfl ?_
                  refine WO_pure (v := (.bool (decide ((aBetter (tscore m a) (tscore m c)) < 0)))) rfl rfl ?_
                  refine WO_pure (v := (.bool (decide ((aBetter (tscore m a) (tscore m c)) < 0)))) rfl rfl ?_
                  refine WO_pure (v := (.bool (decide ((aBetter (tscore m a) (tscore m c)) < 0)))) rfl rfl ?_
                  refine WO_nil ?_
                  exact ⟨rfl, rfl, rfl, rfl, rfl, (by show ((.bool (decide ((aBetter (tscore m a) (tscore m c)) < 0))) : Value) = (.bool (false)); have := aBetter_trans (tscore m a) (tscore m b) (tscore m c); simp_all; try omega)⟩
                · skip
                  refine WO_pass rfl ?_
                  refine WO_pass rfl ?_
                  refine WO_pure (v := (.bool (false))) rfl rfl ?_
                  refine WO_pure (v := (.bool (false))) rfl rfl ?_
                  refine WO_nil ?_
                  exact ⟨rfl, rfl, rfl, rfl, rfl, (by show ((.bool (false)) : Value) = (.bool (false)); have := aBetter_trans (tscore m a) (tscore m b) (tscore m c); simp_all; try omega)⟩
              · skip
                refine WO_pass rfl ?_
                refine WO_pass rfl ?_
                refine WO_pure (v := (.bool (false))) rfl rfl ?_
                refine WO_pure (v := (.bool (false))) rfl rfl ?_
                refine WO_pass rfl ?_
                refine WO_pass rfl ?_
                refine WO_pure (v := (.bool (false))) rfl rfl ?_
                refine WO_pure (v := (.bool (false))) rfl rfl ?_
                refine WO_nil ?_
                exact ⟨rfl, rfl, rfl, rfl, rfl, (by show ((.bool (false)) : Value) = (.bool (false)); have := aBetter_trans (tscore m a) (tscore m b) (tscore m c); simp_all; try omega)⟩
          · skip
            refine WO_pass rfl ?_
            refine WO_pass rfl ?_
            refine WO_pure (v := (.bool (false))) rfl rfl ?_
            refine WO_pure (v := (.bool (false))) rfl rfl ?_
            refine WO_pass rfl ?_
            refine WO_pass rfl ?_
            refine WO_pure (v := (.bool (false))) rfl rfl ?_
            refine WO_pure (v := (.bool (false))) rfl rfl ?_
            refine WO_pure (v := (.int .i64 (aBetter (tscore m a) (tscore m b)))) rfl rfl ?_
            refine WO_pure (v := (.bool (decide (0 ≤ (aBetter (tscore m a) (tscore m b)))))) rfl rfl ?_
            refine WO_pure (v := (.bool (decide (0 ≤ (aBetter (tscore m a) (tscore m b)))))) rfl rfl ?_
            refine WO_splitp 71 (p := 0 ≤ (aBetter (tscore m a) (tscore m b))) (by exact rfl) (fun c9 => ?_) (fun c9 => ?_)
            · skip
              refine WO_pure (v := (.int .i64 (aBetter (tscore m b) (tscore m c)))) rfl rfl ?_
              refine WO_pure (v := (.bool (decide (0 ≤ (aBetter (tscore m b) (tscore m c)))))) rfl rfl ?_
              refine WO_pure (v := (.bool (decide (0 ≤ (aBetter (tscore m b) (tscore m c)))))) rfl rfl ?_
              refine WO_pure (v := (.bool (decide (0 ≤ (aBetter (tscore m b) (tscore m c)))))) rfl rfl ?_
              refine WO_splitp 75 (p := 0 ≤ (aBetter (tscore m b) (tscore m c))) (by exact rfl) (fun c10 => ?_) (fun c10 => ?_)
              · skip
                refine WO_pure (v := (.int .i64 (aBetter (tscore m a) (tscore m c)))) rfl rfl ?_
                refine WO_pure (v := (.bool (decide ((aBetter (tscore m a) (tscore m c)) < 0)))) rfl rfl ?_
                refine WO_pure (v := (.bool (decide ((aBetter (tscore m a) (tscore m c)) < 0)))) rfl rfl ?_
                refine WO_pure (v := (.bool (decide ((aBetter (tscore m a) (tscore m c)) < 0)))) rfl rfl ?_
                refine WO_nil ?_
                exact ⟨rfl, rfl, rfl, rfl, rfl, (by show ((.bool (decide ((aBetter (tscore m a) (tscore m c)) < 0))) : Value) = (.bool (false)); have := aBetter_trans (tscore m a) (tscore m b) (tscore m c); simp_all; try omega)⟩
              · skip
                refine WO_pass rfl ?_
                refine WO_pass rfl ?_
                refine WO_pure (v := (.bool (false))) rfl rfl ?_
                refine WO_pure (v := (.bool (false))) rfl rfl ?_
                refine WO_nil ?_
                exact ⟨rfl, rfl, rfl, rfl, rfl, (by show ((.bool (false)) : Value) = (.bool (false)); have := aBetter_trans (tscore m a) (tscore m b) (tscore m c); simp_all; try omega)⟩
            · skip
              refine WO_pass rfl ?_
              refine WO_pass rfl ?_
              refine WO_pure (v := (.bool (false))) rfl rfl ?_
              refine WO_pure (v := (.bool (false))) rfl rfl ?_
              refine WO_pass rfl ?_
              refine WO_pass rfl ?_
              refine WO_pure (v := (.bool (false))) rfl rfl ?_
              refine WO_pure (v := (.bool (false))) rfl rfl ?_
              refine WO_nil ?_
              exact ⟨rfl, rfl, rfl, rfl, rfl, (by show ((.bool (false)) : Value) = (.bool (false)); have := aBetter_trans (tscore m a) (tscore m b) (tscore m c); simp_all; try omega)⟩
        · rintro σ3 _ ⟨rfl, h3_1, h3_9, h3_10, h3_12, h3_79⟩
          refine W_anchor (d := 1) h3_1 (W_anchor (d := 9) h3_9 (W_anchor (d := 10) h3_10 (W_anchor (d := 12) h3_12 (W_anchor (d := 79) h3_79 (?_)))))
          refine W_false rfl ?_
          refine W_skip ?_
          refine W_cut (fun σ' w' => w2 = w' ∧ σ' 8 = (.bool (true))) ?_ ?_
          · refine W_reg ?_
            refine WO_pure (v := (.bool (true))) rfl rfl ?_
            refine WO_pure (v := (.bool (true))) rfl rfl ?_
            refine WO_pure (v := (.pointer (some ⟨p, 0, none⟩))) rfl rfl ?_
            refine WO_pure (v := (S (a))) rfl rfl ?_
            refine WO_call rfl (by exact en_11) (score_any p mb m _ _ hT hs) ?_
            rintro _ _ ⟨rfl, rfl⟩
            refine WO_pure (v := (.bool (decide (0 < (tscore m a : Int))))) rfl rfl ?_
            refine WO_pure (v := (.bool (decide (0 < (tscore m a : Int))))) rfl rfl ?_
            refine WO_splitp 86 (p := 0 < (tscore m a : Int)) (by exact rfl) (fun c11 => ?_) (fun c11 => ?_)
            · skip
              refine WO_pass rfl ?_
              refine WO_pass rfl ?_
              refine WO_pure (v := (.bool (true))) rfl rfl ?_
              refine WO_pure (v := (.bool (true))) rfl rfl ?_
              refine WO_pure (v := (.bool (true))) rfl rfl ?_
              refine WO_pure (v := (.pointer (some ⟨p, 0, none⟩))) rfl rfl ?_
              refine WO_call rfl (by exact en_11) (score_any p mb m _ _ hT hs) ?_
              rintro _ _ ⟨rfl, rfl⟩
              refine WO_pure (v := (.bool (decide ((tscore m [110, 111, 97, 114, 99, 104] : Int) = 1)))) rfl rfl ?_
              refine WO_pure (v := (.bool (decide ((tscore m [110, 111, 97, 114, 99, 104] : Int) = 1)))) rfl rfl ?_
              refine WO_pure (v := (.bool (decide ((tscore m [110, 111, 97, 114, 99, 104] : Int) = 1)))) rfl rfl ?_
              refine WO_splitp 96 (p := (tscore m [110, 111, 97, 114, 99, 104] : Int) = 1) (by exact rfl) (fun c12 => ?_) (fun c12 => ?_)
              · skip
                refine WO_pure (v := (.pointer (some ⟨p, 0, none⟩))) rfl rfl ?_
                refine WO_pure (v := (S (a))) rfl rfl ?_
                refine WO_call rfl (by exact en_13) (better_any p mb m _ _ _ hT hs) ?_
                rintro _ _ ⟨rfl, rfl⟩
                refine WO_pure (v := (.bool (decide ((aBetter (tscore m [110, 111, 97, 114, 99, 104]) (tscore m a)) ≤ 0)))) rfl rfl ?_
                refine WO_pure (v := (.bool (decide ((aBetter (tscore m [110, 111, 97, 114, 99, 104]) (tscore m a)) ≤ 0)))) rfl rfl ?_
                refine WO_pure (v := (.bool (decide ((aBetter (tscore m [110, 111, 97, 114, 99, 104]) (tscore m a)) ≤ 0)))) rfl rfl ?_
                refine WO_nil ?_
                exact ⟨rfl, (by show ((.bool (decide ((aBetter (tscore m [110, 111, 97, 114, 99, 104]) (tscore m a)) ≤ 0))) : Value) = (.bool (true)); have := aBetter_zero (tscore m a) (tscore m b); have := score_noarch hm; have := better_noarch hm a; simp_all; try omega)⟩
              · skip
                refine WO_pass rfl ?_
                refine WO_pass rfl ?_
                refine WO_pass rfl ?_
                refine WO_pass rfl ?_
                refine WO_pure (v := (.bool (false))) rfl rfl ?_
                refine WO_pure (v := (.bool (false))) rfl rfl ?_
                refine WO_nil ?_
                exact ⟨rfl, (by show ((.bool (false)) : Value) = (.bool (true)); have := aBetter_zero (tscore m a) (tscore m b); have := score_noarch hm; have := better_noarch hm a; simp_all; try omega)⟩
            · skip
              refine WO_pure (v := (.int .i64 (aBetter (tscore m a) (tscore m b)))) rfl rfl ?_
              refine WO_pure (v := (.bool (decide (0 ≤ (aBetter (tscore m a) (tscore m b)))))) rfl rfl ?_
              refine WO_pure (v := (.bool (decide (0 ≤ (aBetter (tscore m a) (tscore m b)))))) rfl rfl ?_
              refine WO_pure (v := (.bool (decide (0 ≤ (aBetter (tscore m a) (tscore m b)))))) rfl rfl ?_
              refine WO_pure (v := (.bool (decide (0 ≤ (aBetter (tscore m a) (tscore m b)))))) rfl rfl ?_
              refine WO_splitp 91 (p := 0 ≤ (aBetter (tscore m a) (tscore m b))) (by exact rfl) (fun c13 => ?_) (fun c13 => ?_)
              · skip
                refine WO_pure (v := (.pointer (some ⟨p, 0, none⟩))) rfl rfl ?_
                refine WO_call rfl (by exact en_11) (score_any p mb m _ _ hT hs) ?_
                rintro _ _ ⟨rfl, rfl⟩
                refine WO_pure (v := (.bool (decide ((tscore m [110, 111, 97, 114, 99, 104] : Int) = 1)))) rfl rfl ?_
                refine WO_pure (v := (.bool (decide ((tscore m [110, 111, 97, 114, 99, 104] : Int) = 1)))) rfl rfl ?_
                refine WO_pure (v := (.bool (decide ((tscore m [110, 111, 97, 114, 99, 104] : Int) = 1)))) rfl rfl ?_
                refine WO_splitp 96 (p := (tscore m [110, 111, 97, 114, 99, 104] : Int) = 1) (by exact rfl) (fun c14 => ?_) (fun c14 => ?_)
                · skip
                  refine WO_pure (v := (.pointer (some ⟨p, 0, none⟩))) rfl rfl ?_
                  refine WO_pure (v := (S (a))) rfl rfl ?_
                  refine WO_call rfl (by exact en_13) (better_any p mb m _ _ _ hT hs) ?_
                  rintro _ _ ⟨rfl, rfl⟩
                  refine WO_pure (v := (.bool (decide ((aBetter (tscore m [110, 111, 97, 114, 99, 104]) (tscore m a)) ≤ 0)))) rfl rfl ?_
                  refine WO_pure (v := (.bool (decide ((aBetter (tscore m [110, 111, 97, 114, 99, 104]) (tscore m a)) ≤ 0)))) rfl rfl ?_
                  refine WO_pure (v := (.bool (decide ((aBetter (tscore m [110, 111, 97, 114, 99, 104]) (tscore m a)) ≤ 0)))) rfl rfl ?_
                  refine WO_nil ?_
                  exact ⟨rfl, (by show ((.bool (decide ((aBetter (tscore m [110, 111, 97, 114, 99, 104]) (tscore m a)) ≤ 0))) : Value) = (.bool (true)); have := aBetter_zero (tscore m a) (tscore m b); have := score_noarch hm; have := better_noarch hm a; simp_all; try omega)⟩
                · skip
                  refine WO_pass rfl ?_
                  refine WO_pass rfl ?_
                  refine WO_pass rfl ?_
                  refine WO_pass rfl ?_
                  refine WO_pure (v := (.bool (false))) rfl rfl ?_
                  refine WO_pure (v := (.bool (false))) rfl rfl ?_
                  refine WO_nil ?_
                  exact ⟨rfl, (by show ((.bool (false)) : Value) = (.bool (true)); have := aBetter_zero (tscore m a) (tscore m b); have := score_noarch hm; have := better_noarch hm a; simp_all; try omega)⟩
              · skip
                refine WO_pass rfl ?_
                refine WO_pass rfl ?_
                refine WO_pass rfl ?_
                refine WO_pure (v := (.bool (false))) rfl rfl ?_
                refine WO_pure (v := (.bool (false))) rfl rfl ?_
                refine WO_pass rfl ?_
                refine WO_pass rfl ?_
                refine WO_pass rfl ?_
                refine WO_pass rfl ?_
                refine WO_pure (v := (.bool (false))) rfl rfl ?_
                refine WO_pure (v := (.bool (false))) rfl rfl ?_
                refine WO_nil ?_
                exact ⟨rfl, (by show ((.bool (false)) : Value) = (.bool (true)); have := aBetter_zero (tscore m a) (tscore m b); have := score_noarch hm; have := better_noarch hm a; simp_all; try omega)⟩
          · rintro σ4 _ ⟨rfl, h4_8⟩
            refine W_anchor (d := 8) h4_8 (?_)
            refine W_ret ?_
            refine body_ret1 rfl (v0 := (.bool (true))) rfl ?_
            exact ⟨rfl, hb⟩
  · have hb := below_ext hb1 hb2
    refine WO_pure rfl rfl ?_
    refine WO_pure (v := (.pointer none)) rfl rfl ?_
    refine WO_pure (v := (.int .i64 (40))) rfl rfl ?_
    refine WO_pure (v := (.pointer none)) rfl rfl ?_
    refine WO_pure (v := (.int .i64 (40))) rfl rfl ?_
    refine WO_nil ?_
    refine W_seq ?_
    refine W_cut (fun σ' w' => w2 = w' ∧ σ' 1 = (S (a)) ∧ σ' 2 = (S (b)) ∧ σ' 3 = (S (c)) ∧ σ' 9 = (.bool (true)) ∧ σ' 10 = (.pointer none) ∧ σ' 26 = (.bool (true))) ?_ ?_
    · refine W_reg ?_
      refine WO_pure (v := (.int .i64 (40))) rfl rfl ?_
      refine WO_pure (v := (.bool (true))) rfl rfl ?_
      refine WO_pure (v := (.bool (true))) rfl rfl ?_
      refine WO_pass rfl ?_
      refine WO_pass rfl ?_
      refine WO_pure (v := (.bool (true))) rfl rfl ?_
      refine WO_nil ?_
      exact ⟨rfl, rfl, rfl, rfl, rfl, rfl, rfl⟩
    · rintro σ5 _ ⟨rfl, h5_1, h5_2, h5_3, h5_9, h5_10, h5_26⟩
      refine W_anchor (d := 1) h5_1 (W_anchor (d := 2) h5_2 (W_anchor (d := 3) h5_3 (W_anchor (d := 9) h5_9 (W_anchor (d := 10) h5_10 (W_anchor (d := 26) h5_26 (?_))))))
      refine W_true rfl ?_
      refine W_cut (fun σ' w' => w2 = w' ∧ σ' 8 = (.bool (true))) ?_ ?_
      · refine W_reg ?_
        refine WO_pure (v := (.bool (true))) rfl rfl ?_
        refine WO_pure (v := (.bool (true))) rfl rfl ?_
        refine WO_pure (v := (.pointer none)) rfl rfl ?_
        refine WO_peql (a := none) rfl rfl rfl Try.underlying23 ?_
        refine WO_pure (v := (.bool (true))) rfl rfl ?_
        refine WO_pure (v := (.bool (true))) rfl rfl ?_
        refine WO_nil ?_
        exact ⟨rfl, rfl⟩
      · rintro σ6 _ ⟨rfl, h6_8⟩
        refine W_anchor (d := 8) h6_8 (?_)
        refine W_ret ?_
        refine body_ret1 rfl (v0 := (.bool (true))) rfl ?_
        exact ⟨rfl, hb⟩

end Go.Proofs.Ytcnmbdabnppbeaa
