/- The layer arch: reading a table, scores, order: what the program's functions compute. No condition. -/
import Derived.Test.YtcnmbdabnppbeaaArch2
namespace Go.Proofs.Ytcnmbdabnppbeaa
open Go Go.RowKit

theorem en_11 : Enters Try.prog 11 := enters_of Try.func11 (by kernel_rfl) rfl
theorem en_13 : Enters Try.prog 13 := enters_of Try.func13 (by kernel_rfl) rfl
theorem en_9 : Enters Try.prog 9 := enters_of Try.func9 (by kernel_rfl) rfl


abbrev ATab := List (List UInt8 × (Nat × Nat))
def TabIs (w : World) (b mb : Nat) (m : ATab) : Prop := w.heap[b]? = some (.cells #[.map (some mb)] 41 (0, 0)) ∧ MapIs w mb (mrows S cxv m)
def Small (m : ATab) : Prop := ∀ p ∈ m, p.2.1 < 44 ∧ p.2.2 < 44
theorem TabIs.ext {w w' : World} {b mb : Nat} {m : ATab} (h : TabIs w b mb m) (hb : Below w.heap.size w w') : TabIs w' b mb m := ⟨below_keep hb h.1, h.2.below hb⟩
def tscore (m : ATab) (a : List UInt8) : Nat := ((alook m a).map (·.1)).getD 0
theorem look_cx (m : ATab) (a : List UInt8) : ((alook m a).map cxv).getD (.complex .f64 0 0) = cxv (((alook m a).getD (0, 0)).1, ((alook m a).getD (0, 0)).2) := by
  cases alook m a <;> rfl
theorem look_score (m : ATab) (a : List UInt8) : ((alook m a).getD (0, 0)).1 = tscore m a := by
  unfold tscore; cases alook m a <;> rfl
theorem tscore_small {m : ATab} (h : Small m) (a : List UInt8) : tscore m a < 44 := by
  unfold tscore
  cases hl : alook m a with
  | none => simp
  | some p =>
    have : ∃ q ∈ m, q.2 = p := by
      unfold alook at hl
      rw [Option.map_eq_some_iff] at hl
      obtain ⟨q, hq, rfl⟩ := hl
      exact ⟨q, List.mem_of_find?_eq_some hq, rfl⟩
    obtain ⟨q, hq, rfl⟩ := this
    exact (h q hq).1
theorem zeroC : ∀ w, (zeroValue 38).run Try.prog w = .ok (.complex .f64 0 0) w := fun w => by kernel_rfl
theorem keyS : Key Try.prog 9 S := key_string Try.underlying9

set_option maxHeartbeats 400000 in
set_option maxRecDepth 100000 in
theorem score_nil (a : List UInt8) (w : World) :
    Calls Try.prog 11 #[(.pointer none), (S (a))] w (Ret fun v w' => v = .int .i64 0 ∧ w = w') := by
  refine calls_W Try.func11 rfl Try.ntmps11 ?_
  refine W_seq ?_
  refine W_reg ?_
  refine WO_pure (v := (.int .i64 (0))) rfl rfl ?_
  refine WO_nil ?_
  refine W_seq ?_
  refine W_seq ?_
  refine W_reg ?_
  refine WO_pure (v := (.pointer none)) rfl rfl ?_
  refine WO_peql (a := none) rfl rfl rfl Try.underlying23 ?_
  refine WO_nil ?_
  refine W_true rfl ?_
  refine W_seq ?_
  refine W_reg ?_
  refine WO_pure (v := (.int .i64 (0))) rfl rfl ?_
  refine WO_nil ?_
  refine W_ret ?_
  refine body_ret1 rfl (v0 := (.int .i64 (0))) rfl ?_
  exact ⟨rfl, rfl⟩

set_option maxHeartbeats 400000 in
set_option maxRecDepth 100000 in
theorem score_any (b mb : Nat) (m : ATab) (a : List UInt8) (w : World) (h : TabIs w b mb m) (hs : Small m) :
    Calls Try.prog 11 #[(.pointer (some ⟨b, 0, none⟩)), (S (a))] w (Ret fun v w' => v = .int .i64 (tscore m a : Int) ∧ w = w') := by
  refine calls_W Try.func11 rfl Try.ntmps11 ?_
  refine W_seq ?_
  refine W_reg ?_
  refine WO_pure (v := (.int .i64 (0))) rfl rfl ?_
  refine WO_nil ?_
  refine W_seq ?_
  refine W_seq ?_
  refine W_reg ?_
  refine WO_pure (v := (.pointer (some ⟨b, 0, none⟩))) rfl rfl ?_
  refine WO_peql (a := (some ⟨b, 0, none⟩)) rfl rfl rfl Try.underlying23 ?_
  refine WO_nil ?_
  refine W_false rfl ?_
  refine W_skip ?_
  refine W_seq ?_
  refine W_reg ?_
  refine WO_pure (v := (.pointer (some ⟨b, 0, none⟩))) rfl rfl ?_
  refine WO_pure (v := (.pointer (some ⟨b, 0, none⟩))) rfl rfl ?_
  refine WO_same (v := (.pointer (some ⟨b, 0, none⟩))) rfl (by kernel_rfl) ?_
  refine WO_load (a := ⟨b, 0, none⟩) (v := (.map (some mb))) rfl rfl Try.underlying39 rfl (cell_of h.1 rfl) ?_
  refine WO_pure (v := (S (a))) rfl rfl ?_
  refine WO_lookup (val := cxv) (m := m) (k := a) rfl rfl rfl h.2 keyS Try.underlying39 zeroC ?_
  refine WO_eq 12 rfl (look_cx m a) ?_
  refine WO_real (a := ((alook m a).getD (0, 0)).1) (b := ((alook m a).getD (0, 0)).2) rfl rfl ?_
  refine WO_fint (a := ((alook m a).getD (0, 0)).1) rfl rfl Try.underlying44 Try.underlying3 (by rw [look_score]; exact tscore_small hs a) ?_
  refine WO_eq 14 rfl (by rw [look_score]) ?_
  refine WO_pure (v := (.int .i64 ((tscore m a : Int)))) rfl rfl ?_
  refine WO_nil ?_
  refine W_ret ?_
  refine body_ret1 rfl (v0 := (.int .i64 ((tscore m a : Int)))) rfl ?_
  exact ⟨rfl, rfl⟩


/-- Which of two scores is the better one. -/
def aBetter (x y : Nat) : Int := if x = 0 ∨ y = 0 then (if y < x then -1 else if x < y then 1 else 0) else (if x < y then -1 else if y < x then 1 else 0)
theorem compare_nat (x y : Nat) (w : World) : Calls Try.prog 18 #[.int .i64 (x : Int), .int .i64 (y : Int)] w (Ret fun v w' => v = .int .i64 (if x < y then -1 else if y < x then 1 else 0) ∧ w = w') := by
  have h := compare_int (x : Int) (y : Int) w
  simpa using h

set_option maxHeartbeats 400000 in
set_option maxRecDepth 100000 in
theorem better_nil (a c : List UInt8) (w : World) :
    Calls Try.prog 13 #[(.pointer none), (S (a)), (S (c))] w (Ret fun v w' => v = .int .i64 0 ∧ w = w') := by
  refine calls_W Try.func13 rfl Try.ntmps13 ?_
  refine W_seq ?_
  refine W_reg ?_
  refine WO_pure (v := (.int .i64 (0))) rfl rfl ?_
  refine WO_nil ?_
  refine W_seq ?_
  refine W_reg ?_
  refine WO_pure (v := (.pointer none)) rfl rfl ?_
  refine WO_pure (v := (S (a))) rfl rfl ?_
  refine WO_call rfl (by exact en_11) (score_nil _ _) ?_
  rintro _ _ ⟨rfl, rfl⟩
  refine WO_pure (v := (.pointer none)) rfl rfl ?_
  refine WO_pure (v := (S (c))) rfl rfl ?_
  refine WO_call rfl (by exact en_11) (score_nil _ _) ?_
  rintro _ _ ⟨rfl, rfl⟩
  refine WO_pure (v := (.int .i64 (0))) rfl rfl ?_
  refine WO_pure (v := (.int .i64 (0))) rfl rfl ?_
  refine WO_nil ?_
  refine W_seq ?_
  refine W_cut (fun σ' w' => w = w' ∧ σ' 7 = (.int .i64 (0)) ∧ σ' 8 = (.int .i64 (0)) ∧ σ' 20 = (.bool (true))) ?_ ?_
  · refine W_reg ?_
    refine WO_pure (v := (.int .i64 (0))) rfl rfl ?_
    refine WO_pure (v := (.bool (true))) rfl rfl ?_
    refine WO_pure (v := (.bool (true))) rfl rfl ?_
    refine WO_pass rfl ?_
    refine WO_pass rfl ?_
    refine WO_pure (v := (.bool (true))) rfl rfl ?_
    refine WO_nil ?_
    exact ⟨rfl, rfl, rfl, (by show ((.bool (true)) : Value) = (.bool (true)); simp)⟩
  · rintro σ1 _ ⟨rfl, h1_7, h1_8, h1_20⟩
    refine W_anchor (d := 7) h1_7 (W_anchor (d := 8) h1_8 (W_anchor (d := 20) h1_20 (?_)))
    refine W_true rfl ?_
    refine W_seq ?_
    refine W_reg ?_
    refine WO_pure (v := (.int .i64 (0))) rfl rfl ?_
    refine WO_pure (v := (.int .i64 (0))) rfl rfl ?_
    refine WO_call rfl (by exact en_18) (compare_int _ _ _) ?_
    rintro _ _ ⟨rfl, rfl⟩
    refine WO_pure (v := (.int .i64 (0))) rfl rfl ?_
    refine WO_nil ?_
    refine W_ret ?_
    refine body_ret1 rfl (v0 := (.int .i64 (0))) rfl ?_
    exact ⟨by simp, rfl⟩

set_option maxHeartbeats 400000 in
set_option maxRecDepth 100000 in
theorem better_any (b mb : Nat) (m : ATab) (a c : List UInt8) (w : World) (h : TabIs w b mb m) (hs : Small m) :
    Calls Try.prog 13 #[(.pointer (some ⟨b, 0, none⟩)), (S (a)), (S (c))] w (Ret fun v w' => v = .int .i64 (aBetter (tscore m a) (tscore m c)) ∧ w = w') := by
  refine calls_W Try.func13 rfl Try.ntmps13 ?_
  refine W_seq ?_
  refine W_reg ?_
  refine WO_pure (v := (.int .i64 (0))) rfl rfl ?_
  refine WO_nil ?_
  refine W_seq ?_
  refine W_reg ?_
  refine WO_pure (v := (.pointer (some ⟨b, 0, none⟩))) rfl rfl ?_
  refine WO_pure (v := (S (a))) rfl rfl ?_
  refine WO_call rfl (by exact en_11) (score_any b mb m _ _ h hs) ?_
  rintro _ _ ⟨rfl, rfl⟩
  refine WO_pure (v := (.pointer (some ⟨b, 0, none⟩))) rfl rfl ?_
  refine WO_pure (v := (S (c))) rfl rfl ?_
  refine WO_call rfl (by exact en_11) (score_any b mb m _ _ h hs) ?_
  rintro _ _ ⟨rfl, rfl⟩
  refine WO_pure (v := (.int .i64 ((tscore m a : Int)))) rfl rfl ?_
  refine WO_pure (v := (.int .i64 ((tscore m c : Int)))) rfl rfl ?_
  refine WO_nil ?_
  refine W_seq ?_
  refine W_cut (fun σ' w' => w = w' ∧ σ' 7 = (.int .i64 ((tscore m a : Int))) ∧ σ' 8 = (.int .i64 ((tscore m c : Int))) ∧ σ' 20 = (.bool ((decide ((tscore m a : Int) = 0)) || (decide ((tscore m c : Int) = 0))))) ?_ ?_
  · refine W_reg ?_
    refine WO_pure (v := (.int .i64 ((tscore m a : Int)))) rfl rfl ?_
    refine WO_pure (v := (.bool (decide ((tscore m a : Int) = 0)))) rfl rfl ?_
    refine WO_pure (v := (.bool (decide ((tscore m a : Int) = 0)))) rfl rfl ?_
    refine WO_splitp 17 (p := (tscore m a : Int) = 0) (by exact rfl) (fun c1 => ?_) (fun c1 => ?_)
    · skip
      refine WO_pass rfl ?_
      refine WO_pass rfl ?_
      refine WO_pure (v := (.bool (true))) rfl rfl ?_
      refine WO_nil ?_
      exact ⟨rfl, rfl, rfl, (by show ((.bool (true)) : Value) = (.bool ((decide ((tscore m a : Int) = 0)) || (decide ((tscore m c : Int) = 0)))); first | (simp [c1]; done) | (simp [c1]; omega) | (simp_all; done) | (simp_all; omega))⟩
    · skip
      refine WO_pure (v := (.int .i64 ((tscore m c : Int)))) rfl rfl ?_
      refine WO_pure (v := (.bool (decide ((tscore m c : Int) = 0)))) rfl rfl ?_
      refine WO_pure (v := (.bool (decide ((tscore m c : Int) = 0)))) rfl rfl ?_
      refine WO_nil ?_
      exact ⟨rfl, rfl, rfl, (by show ((.bool (decide ((tscore m c : Int) = 0))) : Value) = (.bool ((decide ((tscore m a : Int) = 0)) || (decide ((tscore m c : Int) = 0)))); first | (simp [c1]; done) | (simp [c1]; omega) | (simp_all; done) | (simp_all; omega))⟩
  · rintro σ1 _ ⟨rfl, h1_7, h1_8, h1_20⟩
    refine W_anchor (d := 7) h1_7 (W_anchor (d := 8) h1_8 (W_anchor (d := 20) h1_20 (?_)))
    refine W_cond (t := (decide ((tscore m a : Int) = 0)) || (decide ((tscore m c : Int) = 0))) rfl (fun c2 => ?_) (fun c2 => ?_)
    · skip
      refine W_seq ?_
      refine W_reg ?_
      refine WO_pure (v := (.int .i64 ((tscore m c : Int)))) rfl rfl ?_
      refine WO_pure (v := (.int .i64 ((tscore m a : Int)))) rfl rfl ?_
      refine WO_call rfl (by exact en_18) (compare_nat _ _ _) ?_
      rintro _ _ ⟨rfl, rfl⟩
      refine WO_pure (v := (.int .i64 ((if tscore m c < tscore m a then -1 else if tscore m a < tscore m c then 1 else 0)))) rfl rfl ?_
      refine WO_nil ?_
      refine W_ret ?_
      refine body_ret1 rfl (v0 := (.int .i64 ((if tscore m c < tscore m a then -1 else if tscore m a < tscore m c then 1 else 0)))) rfl ?_
      exact ⟨by unfold aBetter; rw [if_pos (show tscore m a = 0 ∨ tscore m c = 0 by simpa using c2)], rfl⟩
    · skip
      refine W_skip ?_
      refine W_seq ?_
      refine W_reg ?_
      refine WO_pure (v := (.int .i64 ((tscore m a : Int)))) rfl rfl ?_
      refine WO_pure (v := (.int .i64 ((tscore m c : Int)))) rfl rfl ?_
      refine WO_call rfl (by exact en_18) (compare_nat _ _ _) ?_
      rintro _ _ ⟨rfl, rfl⟩
      refine WO_pure (v := (.int .i64 ((if tscore m a < tscore m c then -1 else if tscore m c < tscore m a then 1 else 0)))) rfl rfl ?_
      refine WO_nil ?_
      refine W_ret ?_
      refine body_ret1 rfl (v0 := (.int .i64 ((if tscore m a < tscore m c then -1 else if tscore m c < tscore m a then 1 else 0)))) rfl ?_
      exact ⟨by unfold aBetter; rw [if_neg (show ¬ (tscore m a = 0 ∨ tscore m c = 0) by simpa using c2)], rfl⟩


def pBad (s : List UInt8) (m : ATab) (im : Nat) : Bool := (alook m s).isSome || (!archName s || decide (16 < im))
def pLoop : Nat → List UInt8 → ATab → Nat → Nat → Option ATab
  | 0, _, _, _, _ => none
  | f + 1, rest, m, re, im =>
    if pBad (rest.take (sepIdx rest)) m im = true then none
    else if sepIdx rest < rest.length then pLoop f (rest.drop (sepIdx rest + 1)) (aput m (rest.take (sepIdx rest)) (re, im)) (if byteAt rest (sepIdx rest) = 62 then re + 1 else re) (im + 1)
    else some (aput m (rest.take (sepIdx rest)) (re, im))
theorem pLoop_fuel : ∀ (f g : Nat) (rest : List UInt8) (m : ATab) (re im : Nat), rest.length < f → rest.length < g → pLoop f rest m re im = pLoop g rest m re im
  | 0, _, _, _, _, _, h, _ => by omega
  | _ + 1, 0, _, _, _, _, _, h => by omega
  | f + 1, g + 1, rest, m, re, im, h1, h2 => by
    unfold pLoop
    split
    · rfl
    · split
      · exact pLoop_fuel f g _ _ _ _ (by rw [List.length_drop]; omega) (by rw [List.length_drop]; omega)
      · rfl
/-- The table that a text tells. -/
def archParse (text : List UInt8) : Option ATab := pLoop (text.length + 1) text [([110, 111, 97, 114, 99, 104], (1, 0))] 2 1
theorem sepZ_cases (l : List UInt8) : (sepIdx l < l.length ∧ sepZ l = (sepIdx l : Int)) ∨ (sepIdx l = l.length ∧ sepZ l = -1) := by
  have := sepIdx_le l
  unfold sepZ
  by_cases h : sepIdx l < l.length
  · exact .inl ⟨h, if_pos h⟩
  · exact .inr ⟨by omega, if_neg h⟩
theorem Small.put {m : ATab} (h : Small m) (k : List UInt8) {re im : Nat} (h1 : re < 44) (h2 : im < 44) : Small (aput m k (re, im)) := by
  intro p hp
  unfold aput at hp
  split at hp
  · rw [List.mem_map] at hp
    obtain ⟨q, hq, rfl⟩ := hp
    split
    · exact ⟨h1, h2⟩
    · exact h q hq
  · rw [List.mem_append] at hp
    rcases hp with hp | hp
    · exact h p hp
    · simp only [List.mem_singleton] at hp; subst hp; exact ⟨h1, h2⟩
theorem pLoop_bad {rest : List UInt8} {m : ATab} {re im : Nat} (h : pBad (rest.take (sepIdx rest)) m im = true) : pLoop (rest.length + 1) rest m re im = none := by
  unfold pLoop; rw [if_pos h]
theorem pLoop_more {rest : List UInt8} {m : ATab} {re im : Nat} (h : pBad (rest.take (sepIdx rest)) m im = false) (hs : sepIdx rest < rest.length) :
    pLoop (rest.length + 1) rest m re im = pLoop ((rest.drop (sepIdx rest + 1)).length + 1) (rest.drop (sepIdx rest + 1)) (aput m (rest.take (sepIdx rest)) (re, im)) (if byteAt rest (sepIdx rest) = 62 then re + 1 else re) (im + 1) := by
  rw [pLoop, if_neg (by rw [h]; simp), if_pos hs]
  exact pLoop_fuel _ _ _ _ _ _ (by rw [List.length_drop]; omega) (by omega)
theorem pLoop_last {rest : List UInt8} {m : ATab} {re im : Nat} (h : pBad (rest.take (sepIdx rest)) m im = false) (hs : sepIdx rest = rest.length) : pLoop (rest.length + 1) rest m re im = some (aput m (rest.take (sepIdx rest)) (re, im)) := by
  rw [pLoop, if_neg (by rw [h]; simp), if_neg (by omega)]
theorem pBad_im {s : List UInt8} {m : ATab} {im : Nat} (h : pBad s m im = false) : im ≤ 16 := by
  unfold pBad at h; simp at h; omega

set_option maxHeartbeats 400000 in
set_option maxRecDepth 100000 in
theorem archName_any (l : List UInt8) (w : World) (hl : l.length ≤ 9223372036854775807) :
    Calls Try.prog 16 #[(S (l))] w (Ret fun v w' => v = .bool (archName l) ∧ Below w.heap.size w w') := by
  refine calls_W Try.func16 rfl Try.ntmps16 ?_
  refine W_seq ?_
  refine W_reg ?_
  refine WO_pure (v := (.bool (false))) rfl rfl ?_
  refine WO_nil ?_
  refine W_seq ?_
  refine W_reg ?_
  refine WO_pure (v := (.func (.func 23) #[] #[])) rfl rfl ?_
  refine WO_nil ?_
  refine W_cut (fun σ' w' => Below w.heap.size w w' ∧ σ' 2 = (.bool (archName l))) ?_ ?_
  · refine W_reg ?_
    refine WO_pure (v := (S (l))) rfl rfl ?_
    refine WO_sneq (l1 := l) (l2 := []) rfl rfl rfl ?_
    refine WO_pure (v := (.bool (!decide (l = [])))) rfl rfl ?_
    refine WO_split 6 (b := !decide (l = [])) (by exact rfl) (fun c1 => ?_) (fun c1 => ?_)
    · skip
      refine WO_pure (v := (S (l))) rfl rfl ?_
      refine WO_slen (l := l) rfl rfl Try.underlying9 ?_
      refine WO_pure (v := (.bool (decide ((l.length : Int) ≤ 20)))) rfl rfl ?_
      refine WO_pure (v := (.bool (decide ((l.length : Int) ≤ 20)))) rfl rfl ?_
      refine WO_pure (v := (.bool (decide ((l.length : Int) ≤ 20)))) rfl rfl ?_
      refine WO_splitp 11 (p := (l.length : Int) ≤ 20) (by exact rfl) (fun c2 => ?_) (fun c2 => ?_)
      · skip
        refine WO_pure (v := (S (l))) rfl rfl ?_
        refine WO_pure (v := (.func (.func 23) #[] #[])) rfl rfl ?_
        refine WO_call rfl (by exact en_24) (IndexFunc_any l 23 #[] (fun r => !smallR r) _ en_23 tells_name1 (fun r hr => by simp [smallR]; omega) hl) ?_
        rintro _ w1 ⟨z, rfl, hz, hb⟩
        refine WO_pure (v := (.bool (decide (z < 0)))) rfl rfl ?_
        refine WO_pure (v := (.bool (decide (z < 0)))) rfl rfl ?_
        refine WO_pure (v := (.bool (decide (z < 0)))) rfl rfl ?_
        refine WO_nil ?_
        exact ⟨(by first | exact Below.refl _ _ | assumption), (by show ((.bool (decide (z < 0))) : Value) = (.bool (archName l)); show Value.bool _ = Value.bool _; first | (rw [hz]; simp_all [archName, smallR_byte]; done) | (simp_all [archName]; done) | (simp_all [archName]; intro h; omega))⟩
      · skip
        refine WO_pass rfl ?_
        refine WO_pass rfl ?_
        refine WO_pass rfl ?_
        refine WO_pass rfl ?_
        refine WO_pure (v := (.bool (false))) rfl rfl ?_
        refine WO_pure (v := (.bool (false))) rfl rfl ?_
        refine WO_nil ?_
        exact ⟨(by first | exact Below.refl _ _ | assumption), (by show ((.bool (false)) : Value) = (.bool (archName l)); show Value.bool _ = Value.bool _; first | (rw [hz]; simp_all [archName, smallR_byte]; done) | (simp_all [archName]; done) | (simp_all [archName]; intro h; omega))⟩
    · skip
      refine WO_pass rfl ?_
      refine WO_pass rfl ?_
      refine WO_pass rfl ?_
      refine WO_pure (v := (.bool (false))) rfl rfl ?_
      refine WO_pure (v := (.bool (false))) rfl rfl ?_
      refine WO_pass rfl ?_
      refine WO_pass rfl ?_
      refine WO_pass rfl ?_
      refine WO_pass rfl ?_
      refine WO_pure (v := (.bool (false))) rfl rfl ?_
      refine WO_pure (v := (.bool (false))) rfl rfl ?_
      refine WO_nil ?_
      exact ⟨(by first | exact Below.refl _ _ | assumption), (by show ((.bool (false)) : Value) = (.bool (archName l)); show Value.bool _ = Value.bool _; first | (rw [hz]; simp_all [archName, smallR_byte]; done) | (simp_all [archName]; done) | (simp_all [archName]; intro h; omega))⟩
  · rintro σ1 wc ⟨hc, h1_2⟩
    refine W_anchor (d := 2) h1_2 (?_)
    refine W_ret ?_
    refine body_ret1 rfl (v0 := (.bool (archName l))) rfl ?_
    exact ⟨rfl, hc⟩

set_option maxHeartbeats 2000000 in
set_option maxRecDepth 100000 in
theorem parse_any (text : List UInt8) (w : World) (hlen : text.length ≤ 9223372036854775807) :
    Calls Try.prog 9 #[(S (text))] w (Ret fun v w' => (∃ m b mb, archParse text = some m ∧ v = .tuple #[.pointer (some ⟨b, 0, none⟩), .int .i64 0] ∧ TabIs w' b mb m ∧ Small m ∧ Below w.heap.size w w') ∨ (archParse text = none ∧ v = .tuple #[.pointer none, .int .i64 40] ∧ Below w.heap.size w w')) := by
  refine calls_W Try.func9 rfl Try.ntmps9 ?_
  refine W_seq ?_
  refine W_reg ?_
  refine WO_pure (v := (.pointer none)) rfl rfl ?_
  refine WO_pure (v := (.int .i64 (0))) rfl rfl ?_
  refine WO_nil ?_
  refine W_seq ?_
  refine W_reg ?_
  refine WO_makemap rfl (fun w1 n1 => ?_)
  refine WO_mapins (enc := S) (val := cxv) (m := []) (k := [110, 111, 97, 114, 99, 104]) (a := (1, 0)) rfl rfl rfl rfl (MapIs.made n1) (by simp [Once]) keyS Try.underlying39 (fun w2 o2 u2 hm2 => ?_)
  refine WO_pure (v := (.map (some w.heap.size))) rfl rfl ?_
  refine WO_same (v := .agg #[.map (some w.heap.size)]) rfl (by kernel_rfl) ?_
  refine WO_box (v := .agg #[.map (some w.heap.size)]) rfl rfl (fun w3 n3 => ?_)
  have h3 := n3.here
  have hm3 := hm2.new n3
  have hsz : w.heap.size < w2.heap.size := by rw [u2.size, n1.size]; omega
  have hb3 : Below w.heap.size w w3 := n3.below (u2.below n1.ext (Nat.le_refl _)) (by omega)
  have hne : w2.heap.size ≠ w.heap.size := by omega
  have hle : w.heap.size ≤ w2.heap.size := by omega
  clear hsz n1 u2 n3
  generalize w2.heap.size = b at h3 hne hle ⊢
  refine WO_pure (v := (.pointer (some ⟨b, 0, none⟩))) rfl rfl ?_
  refine WO_nil ?_
  refine W_seq ?_
  refine W_reg ?_
  refine WO_pure (v := cxv (2, 1)) rfl rfl ?_
  refine WO_nil ?_
  refine W_seq ?_
  refine W_seq ?_
  refine W_reg ?_
  refine WO_pure (v := (S (text))) rfl rfl ?_
  refine WO_pure (v := (S (text))) rfl rfl ?_
  refine WO_pure (v := (.bool (true))) rfl rfl ?_
  refine WO_nil ?_
  refine W_block ?_
  refine W_loop (fun g σ' w' => ∃ (rest : List UInt8) (more : Bool) (m : ATab) (re im : Nat), σ' 4 = (.pointer (some ⟨b, 0, none⟩)) ∧ σ' 5 = (cxv (re, im)) ∧ σ' 6 = (S (rest)) ∧ σ' 7 = (.bool (more)) ∧ Below w.heap.size w w' ∧ w'.heap[b]? = some (.cells #[.map (some w.heap.size)] 41 (0, 0)) ∧ MapIs w' w.heap.size (mrows S cxv m) ∧ Once m ∧ (re ≤ im + 1 ∧ im ≤ 17) ∧ archParse text = (if more = true then pLoop (rest.length + 1) rest m re im else some m) ∧ rest.length ≤ text.length ∧ Small m ∧ g = (if more = true then rest.length + 1 else 0)) ?_ ?_
  · refine ⟨_, text, true, [([110, 111, 97, 114, 99, 104], (1, 0))], 2, 1, rfl, rfl, rfl, rfl, ?_, ?_, ?_, ?_, ?_, ?_, ?_, ?_, rfl⟩
    · exact hb3
    · exact h3
    · exact hm3
    · simp [Once]
    · omega
    · rfl
    · exact Nat.le_refl _
    · intro p hp; simp only [List.mem_singleton] at hp; subst hp; exact ⟨by decide, by decide⟩
  · rintro g σl1 wl1 ⟨rest, more, m, re, im, l1_4, l1_5, l1_6, l1_7, f1_1, f1_2, f1_3, f1_4, f1_5, f1_6, f1_7, f1_8, rfl⟩
    refine W_anchor (d := 4) l1_4 (W_anchor (d := 5) l1_5 (W_anchor (d := 6) l1_6 (W_anchor (d := 7) l1_7 (?_))))
    refine W_seq ?_
    refine W_seq ?_
    refine W_reg ?_
    refine WO_pure (v := (.bool (more))) rfl rfl ?_
    refine WO_nil ?_
    refine W_cond (t := more) rfl (fun c1 => ?_) (fun c1 => ?_)
    · skip
      refine W_skip ?_
      refine W_block ?_
      refine W_seq ?_
      refine W_reg ?_
      refine WO_pure (v := (S (rest))) rfl rfl ?_
      refine WO_call rfl (by exact en_15) (indexAny_seps _ _ (by omega)) ?_
      rintro _ wa ⟨rfl, ha⟩
      have HM1 := f1_3.below ha
      have HB1 := below_keep ha f1_2
      have hbb := below_ext f1_1 ha
      rcases sepZ_cases rest with ⟨hs, hz⟩ | ⟨hs, hz⟩
      · refine WO_eq 19 (v := .int .i64 (sepZ rest)) rfl (by rw [hz] : _ = Value.int .i64 (sepIdx rest : Int)) ?_
        refine WO_pure (v := (.int .i64 ((sepIdx rest : Int)))) rfl rfl ?_
        refine WO_nil ?_
        refine W_seq ?_
        refine W_reg ?_
        refine WO_pure (v := (S (rest))) rfl rfl ?_
        refine WO_pure (v := S rest) rfl rfl ?_
        refine WO_nil ?_
        refine W_seq ?_
        refine W_seq ?_
        refine W_reg ?_
        refine WO_pure (v := (.int .i64 ((sepIdx rest : Int)))) rfl rfl ?_
        refine WO_pure (v := (.bool (decide (0 ≤ (sepIdx rest : Int))))) rfl rfl ?_
        refine WO_pure (v := (.bool (decide (0 ≤ (sepIdx rest : Int))))) rfl rfl ?_
        refine WO_nil ?_
        refine W_seq ?_
        refine W_reg ?_
        refine WO_pure (v := (.bool (decide (0 ≤ (sepIdx rest : Int))))) rfl rfl ?_
        refine WO_nil ?_
        refine W_if (p := 0 ≤ (sepIdx rest : Int)) rfl (fun c2 => ?_) (fun c2 => ?_)
        · skip
          refine W_reg ?_
          refine WO_pure (v := (S (rest))) rfl rfl ?_
          refine WO_pure (v := (.int .i64 ((sepIdx rest : Int)))) rfl rfl ?_
          refine WO_sshi (l := rest) (j := sepIdx rest) rfl rfl rfl Try.underlying9 (by first | rfl | omega) (by first | omega | (simp; omega)) ?_
          refine WO_pure (v := (S ((rest.take (sepIdx rest))))) rfl rfl ?_
          refine WO_nil ?_
          refine W_seq ?_
          refine W_seq ?_
          refine W_reg ?_
          refine WO_pure (v := (.pointer (some ⟨b, 0, none⟩))) rfl rfl ?_
          refine WO_pure (v := (.pointer (some ⟨b, 0, none⟩))) rfl rfl ?_
          refine WO_same (v := (.pointer (some ⟨b, 0, none⟩))) rfl (by kernel_rfl) ?_
          refine WO_load (a := ⟨b, 0, none⟩) (v := (.map (some w.heap.size))) rfl rfl Try.underlying39 rfl (cell_of (below_keep ha f1_2) rfl) ?_
          refine WO_pure (v := (S ((rest.take (sepIdx rest))))) rfl rfl ?_
          refine WO_lookupok (val := cxv) (m := m) rfl rfl rfl HM1 keyS Try.underlying39 zeroC ?_
          refine WO_pure rfl rfl ?_
          refine WO_pure (v := (((alook m (rest.take (sepIdx rest))).map cxv).getD (.complex .f64 0 0))) rfl rfl ?_
          refine WO_pure (v := (.bool ((alook m (rest.take (sepIdx rest))).isSome))) rfl rfl ?_
          refine WO_pure (v := (((alook m (rest.take (sepIdx rest))).map cxv).getD (.complex .f64 0 0))) rfl rfl ?_
          refine WO_pure (v := (.bool ((alook m (rest.take (sepIdx rest))).isSome))) rfl rfl ?_
          refine WO_nil ?_
          refine W_cut (fun σ' w' => Below wa.heap.size wa w' ∧ σ' 4 = (.pointer (some ⟨b, 0, none⟩)) ∧ σ' 5 = (cxv (re, im)) ∧ σ' 6 = (S (rest)) ∧ σ' 7 = (.bool (decide (0 ≤ (sepIdx rest : Int)))) ∧ σ' 8 = (.int .i64 ((sepIdx rest : Int))) ∧ σ' 9 = (S ((rest.take (sepIdx rest)))) ∧ σ' 46 = (.bool (pBad (rest.take (sepIdx rest)) m im))) ?_ ?_
          · refine W_reg ?_
            refine WO_pure (v := (.bool ((alook m (rest.take (sepIdx rest))).isSome))) rfl rfl ?_
            refine WO_pure (v := (.bool ((alook m (rest.take (sepIdx rest))).isSome))) rfl rfl ?_
            refine WO_split 37 (b := (alook m (rest.take (sepIdx rest))).isSome) (by exact rfl) (fun c3 => ?_) (fun c3 => ?_)
            · skip
              refine WO_pass rfl ?_
              refine WO_pass rfl ?_
              refine WO_pass rfl ?_
              refine WO_pure (v := (.bool (true))) rfl rfl ?_
              refine WO_pure (v := (.bool (true))) rfl rfl ?_
              refine WO_pass rfl ?_
              refine WO_pass rfl ?_
              refine WO_pass rfl ?_
              refine WO_pure (v := (.bool (true))) rfl rfl ?_
              refine WO_nil ?_
              exact ⟨(by first | exact Below.refl _ _ | assumption), rfl, rfl, rfl, rfl, rfl, rfl, (by show ((.bool (true)) : Value) = (.bool (pBad (rest.take (sepIdx rest)) m im)); show Value.bool _ = Value.bool _; simp_all [pBad])⟩
            · skip
              refine WO_pure (v := (S ((rest.take (sepIdx rest))))) rfl rfl ?_
              refine WO_call rfl (by exact en_16) (archName_any _ _ (by rw [List.length_take]; omega)) ?_
              rintro _ wn ⟨rfl, hn⟩
              refine WO_pure (v := (.bool (!(archName (rest.take (sepIdx rest)))))) rfl rfl ?_
              refine WO_pure (v := (.bool (!(archName (rest.take (sepIdx rest)))))) rfl rfl ?_
              refine WO_pure (v := (.bool (!(archName (rest.take (sepIdx rest)))))) rfl rfl ?_
              refine WO_split 42 (b := !(archName (rest.take (sepIdx rest)))) (by exact rfl) (fun c4 => ?_) (fun c4 => ?_)
              · skip
                refine WO_pass rfl ?_
                refine WO_pass rfl ?_
                refine WO_pass rfl ?_
                refine WO_pure (v := (.bool (true))) rfl rfl ?_
                refine WO_nil ?_
                exact ⟨(by first | exact Below.refl _ _ | assumption), rfl, rfl, rfl, rfl, rfl, rfl, (by show ((.bool (true)) : Value) = (.bool (pBad (rest.take (sepIdx rest)) m im)); show Value.bool _ = Value.bool _; simp_all [pBad])⟩
              · skip
                refine WO_pure (v := (cxv (re, im))) rfl rfl ?_
                refine WO_imag (a := re) (b := im) rfl rfl ?_
                refine WO_f16 (a := im) rfl rfl rfl (by omega) ?_
                refine WO_pure (v := (.bool (decide (16 < im)))) rfl rfl ?_
                refine WO_nil ?_
                exact ⟨(by first | exact Below.refl _ _ | assumption), rfl, rfl, rfl, rfl, rfl, rfl, (by show ((.bool (decide (16 < im))) : Value) = (.bool (pBad (rest.take (sepIdx rest)) m im)); show Value.bool _ = Value.bool _; simp_all [pBad])⟩
          · rintro σ1 wc ⟨hc, h1_4, h1_5, h1_6, h1_7, h1_8, h1_9, h1_46⟩
            refine W_anchor (d := 4) h1_4 (W_anchor (d := 5) h1_5 (W_anchor (d := 6) h1_6 (W_anchor (d := 7) h1_7 (W_anchor (d := 8) h1_8 (W_anchor (d := 9) h1_9 (W_anchor (d := 46) h1_46 (?_)))))))
            refine W_cond (t := pBad (rest.take (sepIdx rest)) m im) rfl (fun c5 => ?_) (fun c5 => ?_)
            · skip
              refine W_seq ?_
              refine W_reg ?_
              refine WO_pure (v := (.pointer none)) rfl rfl ?_
              refine WO_pure (v := (.int .i64 (40))) rfl rfl ?_
              refine WO_nil ?_
              refine W_ret ?_
              refine body_ret2 rfl (v0 := (.pointer none)) (v1 := (.int .i64 (40))) rfl rfl ?_
              exact .inr ⟨by rw [f1_6, if_pos c1, pLoop_bad c5], rfl, below_ext hbb hc⟩
            · skip
              refine W_skip ?_
              refine W_seq ?_
              refine W_reg ?_
              refine WO_pure (v := (.pointer (some ⟨b, 0, none⟩))) rfl rfl ?_
              refine WO_pure (v := (.pointer (some ⟨b, 0, none⟩))) rfl rfl ?_
              refine WO_same (v := (.pointer (some ⟨b, 0, none⟩))) rfl (by kernel_rfl) ?_
              refine WO_load (a := ⟨b, 0, none⟩) (v := (.map (some w.heap.size))) rfl rfl Try.underlying39 rfl (cell_of (below_keep hc (below_keep ha f1_2)) rfl) ?_
              refine WO_pure (v := (S ((rest.take (sepIdx rest))))) rfl rfl ?_
              refine WO_pure (v := (cxv (re, im))) rfl rfl ?_
              refine WO_mapput (enc := S) (val := cxv) (m := m) (a := (re, im)) rfl rfl rfl rfl (HM1.below hc) f1_4 keyS Try.underlying39 (fun w7 o7 u7 hm7 => ?_)
              have him := pBad_im (by first | exact c5 | exact c10)
              have hbb7 := u7.below (below_ext hbb hc) (Nat.le_refl _)
              have hb7 := u7.keep (below_keep hc HB1) hne
              refine WO_nil ?_
              refine W_seq ?_
              refine W_reg ?_
              refine WO_pure (v := (cxv (re, im))) rfl rfl ?_
              refine WO_cadd (a := re) (b := im) (c := 0) (d := 1) rfl rfl rfl (by omega) (by omega) (by omega) (by omega) ?_
              refine WO_eq 54 rfl (by rw [Nat.add_zero] : cxv (re + 0, im + 1) = cxv (re, im + 1)) ?_
              refine WO_pure (v := (cxv (re, im + 1))) rfl rfl ?_
              refine WO_nil ?_
              refine W_seq ?_
              refine W_reg ?_
              refine WO_pure (v := (.bool (decide (0 ≤ (sepIdx rest : Int))))) rfl rfl ?_
              refine WO_nil ?_
              refine W_if (p := 0 ≤ (sepIdx rest : Int)) rfl (fun c6 => ?_) (fun c6 => ?_)
              · skip
                refine W_seq ?_
                refine W_seq ?_
                refine W_reg ?_
                refine WO_pure (v := (S (rest))) rfl rfl ?_
                refine WO_pure (v := (.int .i64 ((sepIdx rest : Int)))) rfl rfl ?_
                refine WO_sidx (l := rest) (j := sepIdx rest) rfl rfl rfl Try.underlying9 (by first | rfl | omega) (by first | omega | (simp; omega)) ?_
                refine WO_pure (v := (.bool (decide (((byteAt rest (sepIdx rest)).toNat : Int) = 62)))) rfl rfl ?_
                refine WO_nil ?_
                refine W_if (p := ((byteAt rest (sepIdx rest)).toNat : Int) = 62) rfl (fun c7 => ?_) (fun c7 => ?_)
                · skip
                  refine W_reg ?_
                  refine WO_pure (v := (cxv (re, im + 1))) rfl rfl ?_
                  refine WO_cadd (a := re) (b := im + 1) (c := 1) (d := 0) rfl rfl rfl (by omega) (by omega) (by omega) (by omega) ?_
                  refine WO_eq 61 rfl (by rw [Nat.add_zero] : cxv (re + 1, im + 1 + 0) = cxv (re + 1, im + 1)) ?_
                  refine WO_pure (v := (cxv (re + 1, im + 1))) rfl rfl ?_
                  refine WO_nil ?_
                  refine W_reg ?_
                  refine WO_pure (v := (S (rest))) rfl rfl ?_
                  refine WO_pure (v := (.int .i64 ((sepIdx rest : Int)))) rfl rfl ?_
                  refine WO_add (v := (sepIdx rest : Int) + 1) rfl rfl rfl (by simp only [kLo, kHi]; omega) ?_
                  refine WO_sslo (l := rest) (i := (sepIdx rest) + 1) rfl rfl rfl Try.underlying9 (by first | rfl | omega) (by first | omega | (simp; omega)) ?_
                  refine WO_pure (v := (S ((rest.drop ((sepIdx rest) + 1))))) rfl rfl ?_
                  refine WO_nil ?_
                  have hby : byteAt rest (sepIdx rest) = 62 := UInt8.toNat_inj.1 (by show _ = 62; omega)
                  refine ⟨_, ?_, (rest.drop (sepIdx rest + 1)), (decide (0 ≤ (sepIdx rest : Int))), (aput m (rest.take (sepIdx rest)) (re, im)), (re + 1), (im + 1), rfl, rfl, rfl, rfl, ?_, ?_, ?_, ?_, ?_, ?_, ?_, ?_, rfl⟩
                  · rw [if_pos (by simp), if_pos c1, List.length_drop]; omega
                  · exact hbb7
                  · exact hb7
                  · exact hm7
                  · exact f1_4.put _ _
                  · omega
                  · rw [f1_6, if_pos c1, pLoop_more c5 hs, if_pos hby, if_pos (by simp)]
                  · rw [List.length_drop]; omega
                  · exact f1_8.put _ (by omega) (by omega)
                · skip
                  refine W_skip ?_
                  refine W_reg ?_
                  refine WO_pure (v := (S (rest))) rfl rfl ?_
                  refine WO_pure (v := (.int .i64 ((sepIdx rest : Int)))) rfl rfl ?_
                  refine WO_add (v := (sepIdx rest : Int) + 1) rfl rfl rfl (by simp only [kLo, kHi]; omega) ?_
                  refine WO_sslo (l := rest) (i := (sepIdx rest) + 1) rfl rfl rfl Try.underlying9 (by first | rfl | omega) (by first | omega | (simp; omega)) ?_
                  refine WO_pure (v := (S ((rest.drop ((sepIdx rest) + 1))))) rfl rfl ?_
                  refine WO_nil ?_
                  have hby : ¬ byteAt rest (sepIdx rest) = 62 := fun e => c7 (by rw [e]; rfl)
                  refine ⟨_, ?_, (rest.drop (sepIdx rest + 1)), (decide (0 ≤ (sepIdx rest : Int))), (aput m (rest.take (sepIdx rest)) (re, im)), re, (im + 1), rfl, rfl, rfl, rfl, ?_, ?_, ?_, ?_, ?_, ?_, ?_, ?_, rfl⟩
                  · rw [if_pos (by simp), if_pos c1, List.length_drop]; omega
                  · exact hbb7
                  · exact hb7
                  · exact hm7
                  · exact f1_4.put _ _
                  · omega
                  · rw [f1_6, if_pos c1, pLoop_more c5 hs, if_neg hby, if_pos (by simp)]
                  · rw [List.length_drop]; omega
                  · exact f1_8.put _ (by omega) (by omega)
              · skip
                omega
        · skip
          omega
      · refine WO_eq 19 (v := .int .i64 (sepZ rest)) rfl (by rw [hz] : _ = Value.int .i64 (-1)) ?_
        refine WO_pure (v := (.int .i64 (-1))) rfl rfl ?_
        refine WO_nil ?_
        refine W_seq ?_
        refine W_reg ?_
        refine WO_pure (v := (S (rest))) rfl rfl ?_
        refine WO_pure (v := S rest) rfl rfl ?_
        refine WO_eq 9 rfl (by rw [List.take_of_length_le (by omega)] : S rest = S (rest.take (sepIdx rest))) ?_
        refine WO_nil ?_
        refine W_seq ?_
        refine W_seq ?_
        refine W_reg ?_
        refine WO_pure (v := (.int .i64 (-1))) rfl rfl ?_
        refine WO_pure (v := (.bool (false))) rfl rfl ?_
        refine WO_pure (v := (.bool (false))) rfl rfl ?_
        refine WO_nil ?_
        refine W_seq ?_
        refine W_reg ?_
        refine WO_pure (v := (.bool (false))) rfl rfl ?_
        refine WO_nil ?_
        refine W_false rfl ?_
        refine W_skip ?_
        refine W_seq ?_
        refine W_seq ?_
        refine W_reg ?_
        refine WO_pure (v := (.pointer (some ⟨b, 0, none⟩))) rfl rfl ?_
        refine WO_pure (v := (.pointer (some ⟨b, 0, none⟩))) rfl rfl ?_
        refine WO_same (v := (.pointer (some ⟨b, 0, none⟩))) rfl (by kernel_rfl) ?_
        refine WO_load (a := ⟨b, 0, none⟩) (v := (.map (some w.heap.size))) rfl rfl Try.underlying39 rfl (cell_of (below_keep ha f1_2) rfl) ?_
        refine WO_pure (v := (S ((rest.take (sepIdx rest))))) rfl rfl ?_
        refine WO_lookupok (val := cxv) (m := m) rfl rfl rfl HM1 keyS Try.underlying39 zeroC ?_
        refine WO_pure rfl rfl ?_
        refine WO_pure (v := (((alook m (rest.take (sepIdx rest))).map cxv).getD (.complex .f64 0 0))) rfl rfl ?_
        refine WO_pure (v := (.bool ((alook m (rest.take (sepIdx rest))).isSome))) rfl rfl ?_
        refine WO_pure (v := (((alook m (rest.take (sepIdx rest))).map cxv).getD (.complex .f64 0 0))) rfl rfl ?_
        refine WO_pure (v := (.bool ((alook m (rest.take (sepIdx rest))).isSome))) rfl rfl ?_
        refine WO_nil ?_
        refine W_cut (fun σ' w' => Below wa.heap.size wa w' ∧ σ' 4 = (.pointer (some ⟨b, 0, none⟩)) ∧ σ' 5 = (cxv (re, im)) ∧ σ' 6 = (S (rest)) ∧ σ' 7 = (.bool (false)) ∧ σ' 8 = (.int .i64 (-1)) ∧ σ' 9 = (S ((rest.take (sepIdx rest)))) ∧ σ' 46 = (.bool (pBad (rest.take (sepIdx rest)) m im))) ?_ ?_
        · refine W_reg ?_
          refine WO_pure (v := (.bool ((alook m (rest.take (sepIdx rest))).isSome))) rfl rfl ?_
          refine WO_pure (v := (.bool ((alook m (rest.take (sepIdx rest))).isSome))) rfl rfl ?_
          refine WO_split 37 (b := (alook m (rest.take (sepIdx rest))).isSome) (by exact rfl) (fun c8 => ?_) (fun c8 => ?_)
          · skip
            refine WO_pass rfl ?_
            refine WO_pass rfl ?_
            refine WO_pass rfl ?_
            refine WO_pure (v := (.bool (true))) rfl rfl ?_
            refine WO_pure (v := (.bool (true))) rfl rfl ?_
            refine WO_pass rfl ?_
            refine WO_pass rfl ?_
            refine WO_pass rfl ?_
            refine WO_pure (v := (.bool (true))) rfl rfl ?_
            refine WO_nil ?_
            exact ⟨(by first | exact Below.refl _ _ | assumption), rfl, rfl, rfl, rfl, rfl, rfl, (by show ((.bool (true)) : Value) = (.bool (pBad (rest.take (sepIdx rest)) m im)); show Value.bool _ = Value.bool _; simp_all [pBad])⟩
          · skip
            refine WO_pure (v := (S ((rest.take (sepIdx rest))))) rfl rfl ?_
            refine WO_call rfl (by exact en_16) (archName_any _ _ (by rw [List.length_take]; omega)) ?_
            rintro _ wn ⟨rfl, hn⟩
            refine WO_pure (v := (.bool (!(archName (rest.take (sepIdx rest)))))) rfl rfl ?_
            refine WO_pure (v := (.bool (!(archName (rest.take (sepIdx rest)))))) rfl rfl ?_
            refine WO_pure (v := (.bool (!(archName (rest.take (sepIdx rest)))))) rfl rfl ?_
            refine WO_split 42 (b := !(archName (rest.take (sepIdx rest)))) (by exact rfl) (fun c9 => ?_) (fun c9 => ?_)
            · skip
              refine WO_pass rfl ?_
              refine WO_pass rfl ?_
              refine WO_pass rfl ?_
              refine WO_pure (v := (.bool (true))) rfl rfl ?_
              refine WO_nil ?_
              exact ⟨(by first | exact Below.refl _ _ | assumption), rfl, rfl, rfl, rfl, rfl, rfl, (by show ((.bool (true)) : Value) = (.bool (pBad (rest.take (sepIdx rest)) m im)); show Value.bool _ = Value.bool _; simp_all [pBad])⟩
            · skip
              refine WO_pure (v := (cxv (re, im))) rfl rfl ?_
              refine WO_imag (a := re) (b := im) rfl rfl ?_
              refine WO_f16 (a := im) rfl rfl rfl (by omega) ?_
              refine WO_pure (v := (.bool (decide (16 < im)))) rfl rfl ?_
              refine WO_nil ?_
              exact ⟨(by first | exact Below.refl _ _ | assumption), rfl, rfl, rfl, rfl, rfl, rfl, (by show ((.bool (decide (16 < im))) : Value) = (.bool (pBad (rest.take (sepIdx rest)) m im)); show Value.bool _ = Value.bool _; simp_all [pBad])⟩
        · rintro σ2 wc ⟨hc, h2_4, h2_5, h2_6, h2_7, h2_8, h2_9, h2_46⟩
          refine W_anchor (d := 4) h2_4 (W_anchor (d := 5) h2_5 (W_anchor (d := 6) h2_6 (W_anchor (d := 7) h2_7 (W_anchor (d := 8) h2_8 (W_anchor (d := 9) h2_9 (W_anchor (d := 46) h2_46 (?_)))))))
          refine W_cond (t := pBad (rest.take (sepIdx rest)) m im) rfl (fun c10 => ?_) (fun c10 => ?_)
          · skip
            refine W_seq ?_
            refine W_reg ?_
            refine WO_pure (v := (.pointer none)) rfl rfl ?_
            refine WO_pure (v := (.int .i64 (40))) rfl rfl ?_
            refine WO_nil ?_
            refine W_ret ?_
            refine body_ret2 rfl (v0 := (.pointer none)) (v1 := (.int .i64 (40))) rfl rfl ?_
            exact .inr ⟨by rw [f1_6, if_pos c1, pLoop_bad c10], rfl, below_ext hbb hc⟩
          · skip
            refine W_skip ?_
            refine W_seq ?_
            refine W_reg ?_
            refine WO_pure (v := (.pointer (some ⟨b, 0, none⟩))) rfl rfl ?_
            refine WO_pure (v := (.pointer (some ⟨b, 0, none⟩))) rfl rfl ?_
            refine WO_same (v := (.pointer (some ⟨b, 0, none⟩))) rfl (by kernel_rfl) ?_
            refine WO_load (a := ⟨b, 0, none⟩) (v := (.map (some w.heap.size))) rfl rfl Try.underlying39 rfl (cell_of (below_keep hc (below_keep ha f1_2)) rfl) ?_
            refine WO_pure (v := (S ((rest.take (sepIdx rest))))) rfl rfl ?_
            refine WO_pure (v := (cxv (re, im))) rfl rfl ?_
            refine WO_mapput (enc := S) (val := cxv) (m := m) (a := (re, im)) rfl rfl rfl rfl (HM1.below hc) f1_4 keyS Try.underlying39 (fun w7 o7 u7 hm7 => ?_)
            have him := pBad_im (by first | exact c5 | exact c10)
            have hbb7 := u7.below (below_ext hbb hc) (Nat.le_refl _)
            have hb7 := u7.keep (below_keep hc HB1) hne
            refine WO_nil ?_
            refine W_seq ?_
            refine W_reg ?_
            refine WO_pure (v := (cxv (re, im))) rfl rfl ?_
            refine WO_cadd (a := re) (b := im) (c := 0) (d := 1) rfl rfl rfl (by omega) (by omega) (by omega) (by omega) ?_
            refine WO_eq 54 rfl (by rw [Nat.add_zero] : cxv (re + 0, im + 1) = cxv (re, im + 1)) ?_
            refine WO_pure (v := (cxv (re, im + 1))) rfl rfl ?_
            refine WO_nil ?_
            refine W_seq ?_
            refine W_reg ?_
            refine WO_pure (v := (.bool (false))) rfl rfl ?_
            refine WO_nil ?_
            refine W_false rfl ?_
            refine W_skip ?_
            refine ⟨_, ?_, rest, (decide ((0 : Int) ≤ -1)), (aput m (rest.take (sepIdx rest)) (re, im)), re, (im + 1), rfl, rfl, rfl, rfl, ?_, ?_, ?_, ?_, ?_, ?_, ?_, ?_, rfl⟩
            · rw [if_neg (by simp), if_pos c1]; omega
            · exact hbb7
            · exact hb7
            · exact hm7
            · exact f1_4.put _ _
            · omega
            · rw [f1_6, if_pos c1, pLoop_last c10 hs, if_neg (by simp)]
            · exact f1_7
            · exact f1_8.put _ (by omega) (by omega)
    · skip
      refine W_exit ?_
      refine W_seq ?_
      refine W_reg ?_
      refine WO_pure (v := (.pointer (some ⟨b, 0, none⟩))) rfl rfl ?_
      refine WO_pure (v := (.pointer (some ⟨b, 0, none⟩))) rfl rfl ?_
      refine WO_pure (v := (.int .i64 (0))) rfl rfl ?_
      refine WO_nil ?_
      refine W_ret ?_
      refine body_ret2 rfl (v0 := (.pointer (some ⟨b, 0, none⟩))) (v1 := (.int .i64 (0))) rfl rfl ?_
      exact .inl ⟨m, b, w.heap.size, by rw [f1_6, if_neg (by rw [c1]; simp)], rfl, ⟨f1_2, f1_3⟩, f1_8, f1_1⟩

end Go.Proofs.Ytcnmbdabnppbeaa
