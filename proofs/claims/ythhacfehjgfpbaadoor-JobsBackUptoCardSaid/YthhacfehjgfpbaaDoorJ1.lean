/- The texts Dep10, Dep11, Dep12, Dep13, Dep14, Read, DepX, Dep15, Dep16, Pan, Dep17, Defer, Dep18, Dep19, Bld of the proof, joined. Each says at its theorems what it proves. -/
import Derived.Test.YthhacfehjgfpbaaDoorJ0
import Derived.Defers
import Derived.Recover
import Derived.Lib.OthersKept
import Derived.Lib.AppendIntMem
import Derived.Laws.Externs
import Derived.OrdersHeld
set_option linter.unusedSimpArgs false
set_option linter.unusedVariables false
section
namespace Go.Proofs.YthhacfehjgfpbaaDoor
open Go Go.RowKit
mutual
def namesN : DepT → Nat
 | .mk k _ _ _ args => (if k = 1 then 1 else 0) + argsNames args
def argsNames : List DepT → Nat
 | [] => 0
 | d :: r => namesN d + argsNames r
end
mutual
theorem namesN_le : ∀ d : DepT, namesN d ≤ d.size
 | .mk k nm _ ev args => by unfold namesN DepT.size; have := argsNames_le args; split <;> omega
theorem argsNames_le : ∀ l : List DepT, argsNames l ≤ argsSize l
 | [] => by simp [argsNames, argsSize]
 | d :: r => by unfold argsNames argsSize; have := namesN_le d; have := argsNames_le r; omega
end
theorem argsNames_take {l : List DepT} {i : Nat} (h : i < l.length) : argsNames (l.take (i + 1)) = argsNames (l.take i) + namesN (nth l i) := by
 induction l generalizing i with
 | nil => simp at h
 | cons d r ih =>
  cases i with
  | zero => simp [argsNames, nth]
  | succ i =>
   have := ih (i := i) (by simpa using h)
   simp only [List.take_succ_cons, argsNames, this]
   have hn : nth (d :: r) (i + 1) = nth r i := rfl
   rw [hn]; omega
theorem argsSize_take {l : List DepT} {i : Nat} (h : i < l.length) : argsSize (l.take i) + (nth l i).size ≤ argsSize l := by
 induction l generalizing i with
 | nil => simp at h
 | cons d r ih =>
  cases i with
  | zero => simp only [List.take_zero, argsSize]; show 0 + d.size ≤ _; omega
  | succ i =>
   have := ih (i := i) (by simpa using h)
   have hn : nth (d :: r) (i + 1) = nth r i := rfl
   simp only [List.take_succ_cons, argsSize, hn]; omega
def AllSaid (d : DepT) : Prop := ∀ (w0 w : World) (cs : List Value) (b0 m : Nat), DepC w0 d cs → Below w0.heap.size w0 w → w0.heap.size ≤ b0 → w.heap[b0]? = some (.cells #[.int .i64 ((m : Int))] 3 (0, 0)) → m + d.size ≤ 8388608 →
 Calls Tryd.prog 50 #[.agg cs.toArray, .func (.func 51) #[] #[.pointer (some ⟨b0, 0, none⟩)]] w (Ret fun v w' => w'.heap[b0]? = some (.cells #[.int .i64 (((m + namesN d : Nat) : Int))] 3 (0, 0)) ∧ w.grownBy w' (some b0))
theorem ArgsC.five {w : World} {args : List DepT} {css : List (List Value)} (h : ArgsC w args css) {i : Nat} (hi : i < args.length) : ∃ k nm op ev sv bs cs, nth css i = [.int .i64 k, S nm, .int .i64 op, S ev, sv] ∧ RowIs w sv bs.length 5 cs.flatten ∧ nth args i = .mk k nm op ev bs ∧ ArgsC w bs cs := by
 have h1 := ArgsC.at h i hi
 cases hd : nth args i with
 | mk k nm op ev bs =>
  rw [hd] at h1
  unfold DepC at h1
  obtain ⟨sv, cs, e, hr, hc⟩ := h1
  exact ⟨k, nm, op, ev, sv, bs, cs, e, hr, rfl, hc⟩
set_option maxHeartbeats 400000 in
set_option maxRecDepth 100000 in
theorem count_one (l : List UInt8) (b0 m : Nat) (w : World) (hc : w.heap[b0]? = some (.cells #[.int .i64 ((m : Int))] 3 (0, 0))) (hm : m ≤ 9000000) :
  Calls Tryd.prog 51 #[(S l), (.pointer (some ⟨b0, 0, none⟩))] w (Ret fun v w' => w'.heap[b0]? = some (.cells #[.int .i64 (((m + 1 : Nat) : Int))] 3 (0, 0)) ∧ w.grownBy w' (some b0)) := by
 refine calls_W Tryd.func51 rfl Tryd.ntmps51 ?_
 refine W_reg ?_
 refine WO_load (a := ⟨b0, 0, none⟩) (v := (.int .i64 ((m : Int)))) rfl rfl Tryd.underlying3 rfl (cell_of hc rfl) ?_
 refine WO_add (b := 1) (v := (m : Int) + 1) rfl rfl rfl (by simp only [kLo, kHi]; omega) ?_
 have p1 := hc
 refine WO_store (b := b0) (o := 0) (v := (.int .i64 ((m : Int) + 1))) rfl rfl rfl (fun _ => by kernel_rfl) rfl p1 (by simp) (fun w1 u1 => ?_)
 have e1 : w1.heap[b0]? = some (.cells #[(.int .i64 ((m : Int) + 1))] 3 (0, 0)) := u1.here
 have z1 := u1.size
 refine WO_nil ?_
 refine body_ret0 (fn := Tryd.f51) (by first | exact .inl rfl | exact .inr rfl) rfl ?_
 exact ⟨by simpa using e1, (grown_upd (grown_refl w _) u1 (by first | (left; omega) | (right; rfl)))⟩
set_option maxHeartbeats 1000000 in
set_option maxRecDepth 100000 in
theorem all_step (k op : Int) (nm ev : List UInt8) (args : List DepT) (sv : Value) (css : List (List Value)) (w0 w : World) (b0 m : Nat) (hr : RowIs w0 sv args.length 5 css.flatten) (ha : ArgsC w0 args css) (hbw : Below w0.heap.size w0 w) (hb0 : w0.heap.size ≤ b0) (hc : w.heap[b0]? = some (.cells #[.int .i64 ((m : Int))] 3 (0, 0))) (hm : m + (argsSize args + 1 + nm.length + ev.length) ≤ 8388608) (ih : ∀ i, i < args.length → AllSaid (nth args i)) :
  Calls Tryd.prog 50 #[(.agg #[(.int .i64 k), (S nm), (.int .i64 op), (S ev), sv]), (.func (.func 51) #[] #[.pointer (some ⟨b0, 0, none⟩)])] w (Ret fun v w' => w'.heap[b0]? = some (.cells #[.int .i64 (((m + namesN (.mk k nm op ev args) : Nat) : Int))] 3 (0, 0)) ∧ w.grownBy w' (some b0)) := by
 have hal := argsSize_len args
 have hbl := heap_lt hc
 have hbs := hbw.size
 refine calls_W Tryd.func50 rfl Tryd.ntmps50 ?_
 refine W_seq ?_
 refine W_reg ?_
 refine WO_box (v := (.agg #[(.int .i64 k), (S nm), (.int .i64 op), (S ev), sv])) rfl rfl (fun w1 n1 => ?_)
 have e1 : w1.heap[w.heap.size]? = some (.cells #[(.int .i64 k), (S nm), (.int .i64 op), (S ev), sv] 39 (0, 0)) := n1.here
 have z1 := n1.size
 refine WO_nil ?_
 refine W_seq ?_
 refine W_seq ?_
 refine W_reg ?_
 refine WO_same (v := (.pointer (some ⟨w.heap.size, 0, none⟩))) rfl (by kernel_rfl) ?_
 refine WO_load (a := ⟨w.heap.size, 0, none⟩) (v := (.int .i64 k)) rfl rfl Tryd.underlying3 rfl (cell_of e1 rfl) ?_
 refine WO_pure (v := (.bool (decide (k = 1)))) rfl rfl ?_
 refine WO_nil ?_
 refine W_if (p := k = 1) rfl (fun c1 => ?_) (fun c1 => ?_)
 ·refine W_reg ?_
  refine WO_pure (v := (.func (.func 51) #[] #[.pointer (some ⟨b0, 0, none⟩)])) rfl rfl ?_
  refine WO_same (v := (.pointer (some ⟨w.heap.size, 1, none⟩))) rfl (by kernel_rfl) ?_
  refine WO_load (a := ⟨w.heap.size, 1, none⟩) (v := (S nm)) rfl rfl Tryd.underlying9 rfl (cell_of e1 rfl) ?_
  refine WO_callv rfl rfl (by exact en_51) (count_one nm b0 m _ (n1.keep hc) (by omega)) ?_
  rintro _ wn ⟨hcn, gn⟩
  refine WO_nil ?_
  refine W_seq ?_
  refine W_reg ?_
  refine WO_same (v := (.pointer (some ⟨w.heap.size, 4, none⟩))) rfl (by kernel_rfl) ?_
  refine WO_load (a := ⟨w.heap.size, 4, none⟩) (v := sv) rfl rfl Tryd.underlying37 rfl (cell_of (grown_keep gn e1 (by first | assumption | omega | (intro e; have e2 := Option.some.inj e; omega) | (simp; omega))) rfl) ?_
  refine WO_lenrow (v := sv) (m := args.length) (sz := 5) rfl rfl (hr.ext (grown_below gn (n1.below (below_ext (Below.refl w0.heap.size w0) hbw) (below_ext (Below.refl w0.heap.size w0) hbw).size) (by intro k hk; cases hk; omega))) Tryd.underlying37 ?_
  refine WO_pure (v := (.int .i64 0)) rfl rfl ?_
  refine WO_nil ?_
  refine W_block ?_
  refine W_loop (fun g σ' w' => ∃ (i : Nat), σ' 1 = (.func (.func 51) #[] #[.pointer (some ⟨b0, 0, none⟩)]) ∧ σ' 14 = sv ∧ σ' 15 = (.int .i64 ((args.length : Int))) ∧ σ' 16 = (.int .i64 ((i : Int))) ∧ i ≤ args.length ∧ w.grownBy w' (some b0) ∧ w'.heap[b0]? = some (.cells #[.int .i64 (((m + 1 + argsNames (args.take i) : Nat) : Int))] 3 (0, 0)) ∧ g = args.length - i) ?_ ?_
  ·refine ⟨_, 0, rfl, rfl, rfl, rfl, ?_, ?_, ?_, rfl⟩
   ·omega
   ·exact (World.grownBy.trans (grown_new (grown_refl w _) n1) gn)
   ·simpa [argsNames] using hcn
  ·rintro g σl1 wl1 ⟨i, l1_1, l1_14, l1_15, l1_16, f1_1, f1_2, f1_3, rfl⟩
   refine W_anchor (d := 1) l1_1 (W_anchor (d := 14) l1_14 (W_anchor (d := 15) l1_15 (W_anchor (d := 16) l1_16 (?_))))
   have zf := f1_2.size
   refine W_seq ?_
   refine W_reg ?_
   refine WO_pure (v := (.bool (decide ((i : Int) < (args.length : Int))))) rfl rfl ?_
   refine WO_nil ?_
   refine W_seq ?_
   refine W_if (p := (i : Int) < (args.length : Int)) rfl (fun c2 => ?_) (fun c2 => ?_)
   ·refine W_skip ?_
    refine W_seq ?_
    refine W_block ?_
    refine W_seq ?_
    refine W_reg ?_
    refine WO_idxs (v := sv) (css := css) (i := i) rfl rfl rfl (hr.ext (grown_below f1_2 (below_ext (Below.refl w0.heap.size w0) hbw) (by intro k hk; cases hk; omega))) ha.each ha.len Tryd.underlying37 (fun _ => by kernel_rfl) (by first | rfl | omega) (by first | omega | (simp; done) | (simp; omega)) (fun b2 o2 x2 => ?_)
    refine WO_loads (vs := nth css i) (sz := 5) rfl rfl Tryd.underlying39 rfl (ha.each _ (nth_mem (by rw [ha.len]; omega))) (fun _ => by kernel_rfl) x2 ?_
    obtain ⟨ki, nmi, opi, evi, svi, bsi, csi, hxi, hri, hdi, hai⟩ := ArgsC.five ha (show i < args.length by omega)
    refine WO_eq 19 (v := .agg (nth css i).toArray) (v' := .agg #[.int .i64 ki, S nmi, .int .i64 opi, S evi, svi]) rfl (by rw [hxi]) ?_
    refine WO_alloc (v := (.agg #[(.int .i64 0), (S []), (.int .i64 0), (S []), (.slice none 0 0)])) rfl (fun _ => by kernel_rfl) (fun w3 n3 => ?_)
    have e3 : w3.heap[wl1.heap.size]? = some (.cells #[(.int .i64 0), (S []), (.int .i64 0), (S []), (.slice none 0 0)] 39 (0, 0)) := n3.here
    have z3 := n3.size
    have p4 := e3
    refine WO_storerow (b := wl1.heap.size) (o := 0) (c' := #[(.int .i64 ki), (S nmi), (.int .i64 opi), (S evi), svi]) rfl rfl rfl (fun _ => by kernel_rfl) (by rw [Array.all_eq_true_iff_forall_mem]; intro v hv; simp only [List.mem_toArray, List.mem_cons, List.not_mem_nil, or_false] at hv; rcases hv with hv | hv | hv | hv | hv <;> (rw [hv]; first | rfl | exact oneCell_is (hri.ext (n3.below (grown_below f1_2 (below_ext (Below.refl w0.heap.size w0) hbw) (by intro k hk; cases hk; omega)) (grown_below f1_2 (below_ext (Below.refl w0.heap.size w0) hbw) (by intro k hk; cases hk; omega)).size)))) p4 (by simp) (fun w4 u4 => ?_)
    have e4 : w4.heap[wl1.heap.size]? = some (.cells #[(.int .i64 ki), (S nmi), (.int .i64 opi), (S evi), svi] 39 (0, 0)) := u4.here
    have z4 := u4.size
    refine WO_nil ?_
    refine W_reg ?_
    refine WO_loadrow (b := wl1.heap.size) (o := 0) (m := 5) (c := #[(.int .i64 ki), (S nmi), (.int .i64 opi), (S evi), svi]) rfl rfl Tryd.underlying39 rfl (fun _ => by kernel_rfl) e4 (by simp) ?_
    refine WO_eq 20 (v' := (.agg #[(.int .i64 ki), (S nmi), (.int .i64 opi), (S evi), svi])) rfl rfl ?_
    refine WO_pure (v := (.func (.func 51) #[] #[.pointer (some ⟨b0, 0, none⟩)])) rfl rfl ?_
    refine WO_call rfl (by exact en_50) (ih i (by omega) w0 _ [.int .i64 ki, S nmi, .int .i64 opi, S evi, svi] b0 (m + 1 + argsNames (args.take i)) (by rw [← hxi]; exact ArgsC.at ha i (by omega)) (u4.below (n3.below (grown_below f1_2 (below_ext (Below.refl w0.heap.size w0) hbw) (by intro k hk; cases hk; omega)) (grown_below f1_2 (below_ext (Below.refl w0.heap.size w0) hbw) (by intro k hk; cases hk; omega)).size) (by omega)) hb0 (u4.keep (n3.keep f1_3) (heap_ne (n3.keep f1_3) p4 (by decide))) (by have := argsNames_le (args.take i); have := argsSize_take (show i < args.length by omega); omega)) ?_
    rintro _ wa5 ⟨hca5, ga5⟩
    refine WO_nil ?_
    refine W_reg ?_
    refine WO_add (b := 1) (v := (i : Int) + 1) rfl rfl rfl (by simp only [kLo, kHi]; omega) ?_
    refine WO_pure (v := (.int .i64 ((i : Int) + 1))) rfl rfl ?_
    refine WO_nil ?_
    refine ⟨_, ?_, i + 1, rfl, rfl, rfl, rfl, ?_, ?_, ?_, rfl⟩
    ·omega
    ·omega
    ·exact (World.grownBy.trans (grown_upd (grown_new f1_2 n3) u4 (by first | (left; omega) | (right; rfl))) ga5)
    ·rw [argsNames_take (l := args) (i := i) (by omega), ← Nat.add_assoc]; exact hca5
   ·refine W_exit ?_
    refine body_ret0 (fn := Tryd.f50) (by first | exact .inl rfl | exact .inr rfl) rfl ?_
    refine ⟨?_, f1_2⟩
    have e := f1_3
    rw [List.take_of_length_le (by omega)] at e
    unfold namesN
    rw [if_pos c1, show m + (1 + argsNames args) = m + 1 + argsNames args by omega]
    exact e
 ·refine W_skip ?_
  refine W_seq ?_
  refine W_reg ?_
  refine WO_same (v := (.pointer (some ⟨w.heap.size, 4, none⟩))) rfl (by kernel_rfl) ?_
  refine WO_load (a := ⟨w.heap.size, 4, none⟩) (v := sv) rfl rfl Tryd.underlying37 rfl (cell_of e1 rfl) ?_
  refine WO_lenrow (v := sv) (m := args.length) (sz := 5) rfl rfl ((hr.ext hbw).ext n1.ext) Tryd.underlying37 ?_
  refine WO_pure (v := (.int .i64 0)) rfl rfl ?_
  refine WO_nil ?_
  refine W_block ?_
  refine W_loop (fun g σ' w' => ∃ (i : Nat), σ' 1 = (.func (.func 51) #[] #[.pointer (some ⟨b0, 0, none⟩)]) ∧ σ' 14 = sv ∧ σ' 15 = (.int .i64 ((args.length : Int))) ∧ σ' 16 = (.int .i64 ((i : Int))) ∧ i ≤ args.length ∧ w.grownBy w' (some b0) ∧ w'.heap[b0]? = some (.cells #[.int .i64 (((m + 0 + argsNames (args.take i) : Nat) : Int))] 3 (0, 0)) ∧ g = args.length - i) ?_ ?_
  ·refine ⟨_, 0, rfl, rfl, rfl, rfl, ?_, ?_, ?_, rfl⟩
   ·omega
   ·exact (grown_new (grown_refl w _) n1)
   ·simpa [argsNames] using (n1.keep hc)
  ·rintro g σl2 wl2 ⟨i, l2_1, l2_14, l2_15, l2_16, f2_1, f2_2, f2_3, rfl⟩
   refine W_anchor (d := 1) l2_1 (W_anchor (d := 14) l2_14 (W_anchor (d := 15) l2_15 (W_anchor (d := 16) l2_16 (?_))))
   have zf := f2_2.size
   refine W_seq ?_
   refine W_reg ?_
   refine WO_pure (v := (.bool (decide ((i : Int) < (args.length : Int))))) rfl rfl ?_
   refine WO_nil ?_
   refine W_seq ?_
   refine W_if (p := (i : Int) < (args.length : Int)) rfl (fun c3 => ?_) (fun c3 => ?_)
   ·refine W_skip ?_
    refine W_seq ?_
    refine W_block ?_
    refine W_seq ?_
    refine W_reg ?_
    refine WO_idxs (v := sv) (css := css) (i := i) rfl rfl rfl (hr.ext (grown_below f2_2 (below_ext (Below.refl w0.heap.size w0) hbw) (by intro k hk; cases hk; omega))) ha.each ha.len Tryd.underlying37 (fun _ => by kernel_rfl) (by first | rfl | omega) (by first | omega | (simp; done) | (simp; omega)) (fun b6 o6 x6 => ?_)
    refine WO_loads (vs := nth css i) (sz := 5) rfl rfl Tryd.underlying39 rfl (ha.each _ (nth_mem (by rw [ha.len]; omega))) (fun _ => by kernel_rfl) x6 ?_
    obtain ⟨ki, nmi, opi, evi, svi, bsi, csi, hxi, hri, hdi, hai⟩ := ArgsC.five ha (show i < args.length by omega)
    refine WO_eq 19 (v := .agg (nth css i).toArray) (v' := .agg #[.int .i64 ki, S nmi, .int .i64 opi, S evi, svi]) rfl (by rw [hxi]) ?_
    refine WO_alloc (v := (.agg #[(.int .i64 0), (S []), (.int .i64 0), (S []), (.slice none 0 0)])) rfl (fun _ => by kernel_rfl) (fun w7 n7 => ?_)
    have e7 : w7.heap[wl2.heap.size]? = some (.cells #[(.int .i64 0), (S []), (.int .i64 0), (S []), (.slice none 0 0)] 39 (0, 0)) := n7.here
    have z7 := n7.size
    have p8 := e7
    refine WO_storerow (b := wl2.heap.size) (o := 0) (c' := #[(.int .i64 ki), (S nmi), (.int .i64 opi), (S evi), svi]) rfl rfl rfl (fun _ => by kernel_rfl) (by rw [Array.all_eq_true_iff_forall_mem]; intro v hv; simp only [List.mem_toArray, List.mem_cons, List.not_mem_nil, or_false] at hv; rcases hv with hv | hv | hv | hv | hv <;> (rw [hv]; first | rfl | exact oneCell_is (hri.ext (n7.below (grown_below f2_2 (below_ext (Below.refl w0.heap.size w0) hbw) (by intro k hk; cases hk; omega)) (grown_below f2_2 (below_ext (Below.refl w0.heap.size w0) hbw) (by intro k hk; cases hk; omega)).size)))) p8 (by simp) (fun w8 u8 => ?_)
    have e8 : w8.heap[wl2.heap.size]? = some (.cells #[(.int .i64 ki), (S nmi), (.int .i64 opi), (S evi), svi] 39 (0, 0)) := u8.here
    have z8 := u8.size
    refine WO_nil ?_
    refine W_reg ?_
    refine WO_loadrow (b := wl2.heap.size) (o := 0) (m := 5) (c := #[(.int .i64 ki), (S nmi), (.int .i64 opi), (S evi), svi]) rfl rfl Tryd.underlying39 rfl (fun _ => by kernel_rfl) e8 (by simp) ?_
    refine WO_eq 20 (v' := (.agg #[(.int .i64 ki), (S nmi), (.int .i64 opi), (S evi), svi])) rfl rfl ?_
    refine WO_pure (v := (.func (.func 51) #[] #[.pointer (some ⟨b0, 0, none⟩)])) rfl rfl ?_
    refine WO_call rfl (by exact en_50) (ih i (by omega) w0 _ [.int .i64 ki, S nmi, .int .i64 opi, S evi, svi] b0 (m + 0 + argsNames (args.take i)) (by rw [← hxi]; exact ArgsC.at ha i (by omega)) (u8.below (n7.below (grown_below f2_2 (below_ext (Below.refl w0.heap.size w0) hbw) (by intro k hk; cases hk; omega)) (grown_below f2_2 (below_ext (Below.refl w0.heap.size w0) hbw) (by intro k hk; cases hk; omega)).size) (by omega)) hb0 (u8.keep (n7.keep f2_3) (heap_ne (n7.keep f2_3) p8 (by decide))) (by have := argsNames_le (args.take i); have := argsSize_take (show i < args.length by omega); omega)) ?_
    rintro _ wa9 ⟨hca9, ga9⟩
    refine WO_nil ?_
    refine W_reg ?_
    refine WO_add (b := 1) (v := (i : Int) + 1) rfl rfl rfl (by simp only [kLo, kHi]; omega) ?_
    refine WO_pure (v := (.int .i64 ((i : Int) + 1))) rfl rfl ?_
    refine WO_nil ?_
    refine ⟨_, ?_, i + 1, rfl, rfl, rfl, rfl, ?_, ?_, ?_, rfl⟩
    ·omega
    ·omega
    ·exact (World.grownBy.trans (grown_upd (grown_new f2_2 n7) u8 (by first | (left; omega) | (right; rfl))) ga9)
    ·rw [argsNames_take (l := args) (i := i) (by omega), ← Nat.add_assoc]; exact hca9
   ·refine W_exit ?_
    refine body_ret0 (fn := Tryd.f50) (by first | exact .inl rfl | exact .inr rfl) rfl ?_
    refine ⟨?_, f2_2⟩
    have e := f2_3
    rw [List.take_of_length_le (by omega)] at e
    unfold namesN
    rw [if_neg c1, show m + (0 + argsNames args) = m + 0 + argsNames args by omega]
    exact e
theorem all_any (d : DepT) : AllSaid d := by
 refine dep_all (C := AllSaid) (fun k nm op ev args ih => ?_) d
 intro w0 w cs b0 m h hbw hb0 hc hm
 unfold DepC at h
 obtain ⟨sv, css, rfl, hr, ha⟩ := h
 unfold DepT.size at hm
 exact all_step k op nm ev args sv css w0 w b0 m hr ha hbw hb0 hc hm ih
end Go.Proofs.YthhacfehjgfpbaaDoor
end
section
namespace Go.Proofs.YthhacfehjgfpbaaDoor
open Go Go.RowKit
mutual
theorem names_parts : ∀ d : DepT, formB d = true → namesN d = partsN d
 | .mk k nm op ev args, h => by
  unfold formB at h
  unfold namesN partsN
  by_cases hk : k = 1
  ·rw [if_pos hk] at h
   rw [if_pos hk, if_pos hk]
   rw [form_name] at h
   have h0 := (of_decide_eq_true h).2.1
   rw [List.length_eq_zero_iff.1 h0]; rfl
  ·rw [if_neg hk] at h
   rw [if_neg hk, if_neg hk]
   simp only [Bool.and_eq_true] at h
   rw [argsNames_parts k args h.2]; omega
theorem argsNames_parts (k : Int) : ∀ l : List DepT, argsForm k l = true → argsNames l = argsParts l
 | [], _ => rfl
 | d :: r, h => by
  unfold argsForm at h
  simp only [Bool.and_eq_true] at h
  unfold argsNames argsParts
  rw [names_parts d h.2.1, argsNames_parts k r h.2.2]
end
set_option maxHeartbeats 400000 in
set_option maxRecDepth 100000 in
theorem check_step (k op : Int) (nm ev : List UInt8) (args : List DepT) (sv : Value) (css : List (List Value)) (w : World) (hr : RowIs w sv args.length 5 css.flatten) (ha : ArgsC w args css) (hs : argsSize args + 1 + nm.length + ev.length ≤ 4194304) :
  Calls Tryd.prog 37 #[(.agg #[(.int .i64 k), (S nm), (.int .i64 op), (S ev), sv])] w (Ret fun v w' => v = .int .i64 (checkE (.mk k nm op ev args)) ∧ Below w.heap.size w w') := by
 have hd0 : DepC w (.mk k nm op ev args) [.int .i64 k, S nm, .int .i64 op, S ev, sv] := by unfold DepC; exact ⟨sv, css, rfl, hr, ha⟩
 refine calls_W Tryd.func37 rfl Tryd.ntmps37 ?_
 refine W_seq ?_
 refine W_reg ?_
 refine WO_box (v := (.agg #[(.int .i64 k), (S nm), (.int .i64 op), (S ev), sv])) rfl rfl (fun w1 n1 => ?_)
 have e1 : w1.heap[w.heap.size]? = some (.cells #[(.int .i64 k), (S nm), (.int .i64 op), (S ev), sv] 39 (0, 0)) := n1.here
 have z1 := n1.size
 refine WO_pure (v := (.int .i64 0)) rfl rfl ?_
 refine WO_nil ?_
 refine W_seq ?_
 refine W_seq ?_
 refine W_reg ?_
 refine WO_loadrow (b := w.heap.size) (o := 0) (m := 5) (c := #[(.int .i64 k), (S nm), (.int .i64 op), (S ev), sv]) rfl rfl Tryd.underlying39 rfl (fun _ => by kernel_rfl) e1 (by simp) ?_
 refine WO_eq 4 (v' := (.agg #[(.int .i64 k), (S nm), (.int .i64 op), (S ev), sv])) rfl rfl ?_
 refine WO_call rfl (by exact en_49) (form_any (DepT.mk k nm op ev args) _ _ (hd0.ext (n1.below (Below.refl w.heap.size w) (Below.refl w.heap.size w).size) _ _) (by unfold DepT.size; omega)) ?_
 rintro _ w2 ⟨rfl, h2⟩
 have z_w2 := h2.size
 refine WO_pure (v := (.bool (!(formB (DepT.mk k nm op ev args))))) rfl rfl ?_
 refine WO_nil ?_
 refine W_cond (t := !(formB (DepT.mk k nm op ev args))) rfl (fun c1 => ?_) (fun c1 => ?_)
 ·refine W_seq ?_
  refine W_reg ?_
  refine WO_pure (v := (.int .i64 50)) rfl rfl ?_
  refine WO_nil ?_
  refine W_ret ?_
  refine body_ret1 rfl (v0 := (.int .i64 50)) rfl ?_
  have hbel := (below_ext (n1.below (Below.refl w.heap.size w) (Below.refl w.heap.size w).size) h2)
  exact ⟨by unfold checkE; rw [show formB (DepT.mk k nm op ev args) = false by simpa using c1]; rfl, hbel⟩
 ·refine W_skip ?_
  refine W_seq ?_
  refine W_reg ?_
  refine WO_alloc (v := (.int .i64 0)) rfl (fun _ => by kernel_rfl) (fun w3 n3 => ?_)
  have e3 : w3.heap[w2.heap.size]? = some (.cells #[(.int .i64 0)] 3 (0, 0)) := n3.here
  have z3 := n3.size
  have p4 := e3
  refine WO_store (b := w2.heap.size) (o := 0) (v := (.int .i64 0)) rfl rfl rfl (fun _ => by kernel_rfl) rfl p4 (by simp) (fun w4 u4 => ?_)
  have e4 : w4.heap[w2.heap.size]? = some (.cells #[(.int .i64 0)] 3 (0, 0)) := u4.here
  have z4 := u4.size
  refine WO_nil ?_
  refine W_seq ?_
  refine W_reg ?_
  refine WO_loadrow (b := w.heap.size) (o := 0) (m := 5) (c := #[(.int .i64 k), (S nm), (.int .i64 op), (S ev), sv]) rfl rfl Tryd.underlying39 rfl (fun _ => by kernel_rfl) (u4.keep (n3.keep (below_keep h2 e1)) (heap_ne (n3.keep (below_keep h2 e1)) p4 (by decide))) (by simp) ?_
  refine WO_eq 7 (v' := (.agg #[(.int .i64 k), (S nm), (.int .i64 op), (S ev), sv])) rfl rfl ?_
  refine WO_same (v := (.func (.func 51) #[] #[.pointer (some ⟨w2.heap.size, 0, none⟩)])) rfl (by kernel_rfl) ?_
  refine WO_call rfl (by exact en_50) (all_any (DepT.mk k nm op ev args) w _ _ w2.heap.size 0 hd0 (u4.below (n3.below (below_ext (n1.below (Below.refl w.heap.size w) (Below.refl w.heap.size w).size) h2) (below_ext (n1.below (Below.refl w.heap.size w) (Below.refl w.heap.size w).size) h2).size) (by omega)) (by omega) (by simpa using e4) (by unfold DepT.size; omega)) ?_
  rintro _ wa ⟨hca, ga⟩
  have z_wa := ga.size
  refine WO_nil ?_
  refine W_seq ?_
  refine W_seq ?_
  refine W_reg ?_
  refine WO_load (a := ⟨w2.heap.size, 0, none⟩) (v := (.int .i64 (((0 + namesN (DepT.mk k nm op ev args) : Nat) : Int)))) rfl rfl Tryd.underlying3 rfl (cell_of hca rfl) ?_
  refine WO_pure (v := (.bool (decide (16 < ((0 + namesN (DepT.mk k nm op ev args) : Nat) : Int))))) rfl rfl ?_
  refine WO_nil ?_
  refine W_if (p := 16 < ((0 + namesN (DepT.mk k nm op ev args) : Nat) : Int)) rfl (fun c2 => ?_) (fun c2 => ?_)
  ·refine W_seq ?_
   refine W_reg ?_
   refine WO_pure (v := (.int .i64 51)) rfl rfl ?_
   refine WO_nil ?_
   refine W_ret ?_
   refine body_ret1 rfl (v0 := (.int .i64 51)) rfl ?_
   have hbel := (grown_below ga (u4.below (n3.below (below_ext (n1.below (Below.refl w.heap.size w) (Below.refl w.heap.size w).size) h2) (below_ext (n1.below (Below.refl w.heap.size w) (Below.refl w.heap.size w).size) h2).size) (by omega)) (by intro k hk; cases hk; omega))
   exact ⟨by unfold checkE; rw [show formB (DepT.mk k nm op ev args) = true by simpa using c1, if_pos rfl, ← names_parts _ (show formB (DepT.mk k nm op ev args) = true by simpa using c1), if_pos (by omega)], hbel⟩
  ·refine W_skip ?_
   refine W_seq ?_
   refine W_reg ?_
   refine WO_pure (v := (.int .i64 0)) rfl rfl ?_
   refine WO_nil ?_
   refine W_ret ?_
   refine body_ret1 rfl (v0 := (.int .i64 0)) rfl ?_
   have hbel := (grown_below ga (u4.below (n3.below (below_ext (n1.below (Below.refl w.heap.size w) (Below.refl w.heap.size w).size) h2) (below_ext (n1.below (Below.refl w.heap.size w) (Below.refl w.heap.size w).size) h2).size) (by omega)) (by intro k hk; cases hk; omega))
   exact ⟨by unfold checkE; rw [show formB (DepT.mk k nm op ev args) = true by simpa using c1, if_pos rfl, ← names_parts _ (show formB (DepT.mk k nm op ev args) = true by simpa using c1), if_neg (by omega)], hbel⟩
theorem check_any {w : World} (d : DepT) (cs : List Value) (h : DepC w d cs) (hs : d.size ≤ 4194304) : Calls Tryd.prog 37 #[.agg cs.toArray] w (Ret fun v w' => v = .int .i64 (checkE d) ∧ Below w.heap.size w w') := by
 cases d with
 | mk k nm op ev args =>
  unfold DepC at h
  obtain ⟨sv, css, rfl, hr, ha⟩ := h
  unfold DepT.size at hs
  exact check_step k op nm ev args sv css w hr ha (by omega)
end Go.Proofs.YthhacfehjgfpbaaDoor
end
section
namespace Go.Proofs.YthhacfehjgfpbaaDoor
open Go Go.RowKit
def skipB : List UInt8 → List UInt8
 | [] => []
 | c :: r => if c = 32 then skipB r else c :: r
def scanW : List UInt8 → Nat → Nat
 | [], _ => 0
 | c :: r, n => if c = 32 then 0 else if c = 41 then (if n = 0 then 0 else scanW r (n - 1) + 1) else if c = 40 then scanW r (n + 1) + 1 else scanW r n + 1
def nextW (s : List UInt8) : List UInt8 × List UInt8 := match skipB s with
 | [] => ([], [])
 | c :: r => if c = 40 ∨ c = 41 then ([c], r) else ((c :: r).take (scanW (c :: r) 0), (c :: r).drop (scanW (c :: r) 0))
def wordsN : Nat → List UInt8 → List (List UInt8)
 | 0, _ => []
 | n + 1, s => if (nextW s).1 = [] then [] else (nextW s).1 :: wordsN n (nextW s).2
def wordsOf (s : List UInt8) : List (List UInt8) := wordsN s.length s
theorem skipB_le : ∀ s, (skipB s).length ≤ s.length
 | [] => by simp [skipB]
 | c :: r => by unfold skipB; have := skipB_le r; split <;> simp <;> omega
theorem skipB_head : ∀ {s c r}, skipB s = c :: r → c ≠ 32
 | [], _, _, h => by simp [skipB] at h
 | a :: s, c, r, h => by
  unfold skipB at h
  split at h
  ·exact skipB_head h
  ·rename_i hne; cases h; exact hne
theorem scanW_pos {c : UInt8} {r : List UInt8} (h1 : c ≠ 32) (h2 : c ≠ 41) : 1 ≤ scanW (c :: r) 0 := by
 unfold scanW; rw [if_neg h1, if_neg h2]; split <;> omega
theorem next_len {s : List UInt8} (h : (nextW s).1 ≠ []) : (nextW s).2.length < s.length := by
 have hle := skipB_le s
 unfold nextW at h ⊢
 cases hs : skipB s with
 | nil => rw [hs] at h; exact absurd rfl h
 | cons c r =>
  rw [hs] at hle
  simp only [List.length_cons] at hle
  simp only
  split
  ·show r.length < _; omega
  ·rename_i hc
   have := scanW_pos (r := r) (skipB_head hs) (fun e => hc (.inr e))
   show ((c :: r).drop _).length < _
   rw [List.length_drop, List.length_cons]; omega
theorem wordsN_any : ∀ (n m : Nat) (s : List UInt8), s.length ≤ n → s.length ≤ m → wordsN n s = wordsN m s
 | 0, m, s, hn, _ => by
  have : s = [] := List.length_eq_zero_iff.1 (by omega)
  subst this
  cases m <;> rfl
 | n + 1, 0, s, _, hm => by
  have : s = [] := List.length_eq_zero_iff.1 (by omega)
  subst this; rfl
 | n + 1, m + 1, s, hn, hm => by
  unfold wordsN
  split
  ·rfl
  ·rename_i h
   have := next_len h
   rw [wordsN_any n m _ (by omega) (by omega)]
theorem wordsOf_step (s : List UInt8) : wordsOf s = if (nextW s).1 = [] then [] else (nextW s).1 :: wordsOf (nextW s).2 := by
 unfold wordsOf
 cases hs : s.length with
 | zero =>
  have : s = [] := List.length_eq_zero_iff.1 hs
  subst this; rfl
 | succ n =>
  conv => lhs; unfold wordsN
  split
  ·rfl
  ·rename_i h
   have := next_len h
   rw [wordsN_any n _ _ (by omega) (Nat.le_refl _)]
theorem wordsOf_nil : wordsOf [] = [] := rfl
section
variable {s : List UInt8} {j o : Nat}
theorem toNat_eq {c : UInt8} {k : Nat} (hk : k < 256) : ((c.toNat : Int) = (k : Int)) ↔ c = UInt8.ofNat k := by
 constructor
 ·intro h
  apply UInt8.toNat_inj.1
  rw [UInt8.toNat_ofNat']
  omega
 ·rintro rfl; rw [UInt8.toNat_ofNat']; omega
theorem e32 {c : UInt8} : ((c.toNat : Int) = 32) ↔ c = 32 := toNat_eq (k := 32) (by omega)
theorem e40 {c : UInt8} : ((c.toNat : Int) = 40) ↔ c = 40 := toNat_eq (k := 40) (by omega)
theorem e41 {c : UInt8} : ((c.toNat : Int) = 41) ↔ c = 41 := toNat_eq (k := 41) (by omega)
theorem scan_end (h : ¬ (j < s.length ∧ ¬ ((byteAt s j).toNat : Int) = 32)) : scanW (s.drop j) o = 0 := by
 by_cases hj : j < s.length
 ·have h2 : ((byteAt s j).toNat : Int) = 32 := Decidable.byContradiction fun h2 => h ⟨hj, h2⟩
  rw [drop_byte hj, scanW, if_pos (e32.1 h2)]
 ·rw [List.drop_of_length_le (by omega)]; rfl
theorem scan_stop (h1 : j < s.length ∧ ¬ ((byteAt s j).toNat : Int) = 32) (h : ((byteAt s j).toNat : Int) = 41 ∧ o = 0) : scanW (s.drop j) o = 0 := by
 rw [drop_byte h1.1, scanW, if_neg (fun e => h1.2 (e32.2 e)), if_pos (e41.1 h.1), if_pos h.2]
theorem scan_open (h1 : j < s.length ∧ ¬ ((byteAt s j).toNat : Int) = 32) (h2 : ((byteAt s j).toNat : Int) = 40) : scanW (s.drop j) o = scanW (s.drop (j + 1)) (o + 1) + 1 := by
 rw [drop_byte h1.1, scanW, if_neg (fun e => h1.2 (e32.2 e)), if_neg (fun e => by have := e41.2 e; omega), if_pos (e40.1 h2)]
theorem scan_close (h1 : j < s.length ∧ ¬ ((byteAt s j).toNat : Int) = 32) (h2 : ((byteAt s j).toNat : Int) = 41) (ho : o ≠ 0) : scanW (s.drop j) o = scanW (s.drop (j + 1)) (o - 1) + 1 := by
 rw [drop_byte h1.1, scanW, if_neg (fun e => h1.2 (e32.2 e)), if_pos (e41.1 h2), if_neg ho]
theorem scan_else (h1 : j < s.length ∧ ¬ ((byteAt s j).toNat : Int) = 32) (h2 : ¬ ((byteAt s j).toNat : Int) = 40) (h3 : ¬ ((byteAt s j).toNat : Int) = 41) : scanW (s.drop j) o = scanW (s.drop (j + 1)) o + 1 := by
 rw [drop_byte h1.1, scanW, if_neg (fun e => h1.2 (e32.2 e)), if_neg (fun e => h3 (e41.2 e)), if_neg (fun e => h2 (e40.2 e))]
end
theorem take_one {s : List UInt8} {i : Nat} (h : i < s.length) : (s.take (i + 1)).drop i = [byteAt s i] := by
 rw [List.drop_take, show i + 1 - i = 1 by omega, drop_byte h]; rfl
end Go.Proofs.YthhacfehjgfpbaaDoor
end
section
namespace Go.Proofs.YthhacfehjgfpbaaDoor
open Go Go.RowKit
theorem en_46 : Enters Tryd.prog 46 := enters_of Tryd.func46 (by kernel_rfl) rfl
theorem en_58 : Enters Tryd.prog 58 := enters_of Tryd.func58 (by kernel_rfl) rfl
theorem en_47 : Enters Tryd.prog 47 := enters_of Tryd.func47 (by kernel_rfl) rfl
theorem en_62 : Enters Tryd.prog 62 := enters_of Tryd.func62 (by kernel_rfl) rfl
theorem en_34 : Enters Tryd.prog 34 := enters_of Tryd.func34 (by kernel_rfl) rfl
theorem en_48 : Enters Tryd.prog 48 := enters_of Tryd.func48 (by kernel_rfl) rfl
theorem skip_step {t : List UInt8} (h : 0 < t.length ∧ ((byteAt t 0).toNat : Int) = 32) : skipB t = skipB (t.drop 1) := by
 cases t with
 | nil => simp at h
 | cons c r =>
  have hc : c = 32 := e32.1 h.2
  show skipB (c :: r) = skipB r
  rw [skipB, if_pos hc]
theorem skip_done {t : List UInt8} (h : ¬ (0 < t.length ∧ ((byteAt t 0).toNat : Int) = 32)) : skipB t = t := by
 cases t with
 | nil => rfl
 | cons c r =>
  rw [skipB, if_neg (fun (e : c = 32) => h ⟨by simp, e32.2 e⟩)]
def headIs (s : List UInt8) (c : UInt8) : Bool := decide (s.take 1 = [c])
theorem head_nil {s : List UInt8} {c : UInt8} (h : s.length < 1) : headIs s c = false := by
 have : s = [] := List.length_eq_zero_iff.1 (by omega)
 subst this; simp [headIs]
theorem head_at {s : List UInt8} {c : UInt8} : headIs s c = true ↔ 0 < s.length ∧ byteAt s 0 = c := by
 unfold headIs
 rw [decide_eq_true_eq]
 cases s with
 | nil => simp
 | cons a r => simp [byteAt]
set_option maxHeartbeats 400000 in
set_option maxRecDepth 100000 in
theorem trimByte_any (s : List UInt8) (w : World) (hl : s.length ≤ 9223372036854775807) :
  Calls Tryd.prog 58 #[(S s), (.int .u8 32)] w (Ret fun v w' => v = S (skipB s) ∧ w = w') := by
 refine calls_W Tryd.func58 rfl Tryd.ntmps58 ?_
 refine W_seq ?_
 refine W_reg ?_
 refine WO_pure (v := (S [])) rfl rfl ?_
 refine WO_nil ?_
 refine W_seq ?_
 refine W_block ?_
 refine W_loop (fun g σ' w' => ∃ (t : List UInt8), w = w' ∧ σ' 0 = (S t) ∧ σ' 1 = (.int .u8 32) ∧ t.length ≤ s.length ∧ skipB s = skipB t ∧ g = t.length) ?_ ?_
 ·refine ⟨_, s, rfl, rfl, rfl, ?_, ?_, rfl⟩
  ·omega
  ·rfl
 ·rintro g σl1 _ ⟨t, rfl, l1_0, l1_1, f1_1, f1_2, rfl⟩
  refine W_anchor (d := 0) l1_0 (W_anchor (d := 1) l1_1 (?_))
  refine W_seq ?_
  refine W_cut (fun σ' w' => w = w' ∧ σ' 0 = (S t) ∧ σ' 1 = (.int .u8 32) ∧ σ' 13 = (.bool (decide (0 < t.length ∧ ((byteAt t 0).toNat : Int) = 32)))) ?_ ?_
  ·refine W_reg ?_
   refine WO_pure (v := (S t)) rfl rfl ?_
   refine WO_slen (l := t) rfl rfl Tryd.underlying9 ?_
   refine WO_pure (v := (.bool (decide (0 < (t.length : Int))))) rfl rfl ?_
   refine WO_pure (v := (.bool (decide (0 < (t.length : Int))))) rfl rfl ?_
   refine WO_splitp 8 (p := 0 < (t.length : Int)) (by exact rfl) (fun c1 => ?_) (fun c1 => ?_)
   ·refine WO_pure (v := (S t)) rfl rfl ?_
    refine WO_sidx (l := t) (j := 0) rfl rfl rfl Tryd.underlying9 (by first | rfl | omega) (by first | omega | (simp; done) | (simp; omega)) ?_
    refine WO_pure (v := (.int .u8 32)) rfl rfl ?_
    refine WO_pure (v := (.bool (decide (((byteAt t 0).toNat : Int) = 32)))) rfl rfl ?_
    refine WO_pure (v := (.bool (decide (((byteAt t 0).toNat : Int) = 32)))) rfl rfl ?_
    refine WO_nil ?_
    exact ⟨rfl, rfl, rfl, (by show ((.bool (decide (((byteAt t 0).toNat : Int) = 32))) : Value) = (.bool (decide (0 < t.length ∧ ((byteAt t 0).toNat : Int) = 32))); show Value.bool _ = Value.bool _; rw [Value.bool.injEq, Bool.eq_iff_iff]; first | (simp [c1]; done) | (simp [c1]; omega) | (simp_all []; done) | (simp_all []; omega) | (simp only [Bool.or_eq_true, Bool.and_eq_true, Bool.not_eq_true', decide_eq_true_eq, decide_eq_false_iff_not]; grind))⟩
   ·refine WO_pass rfl ?_
    refine WO_pass rfl ?_
    refine WO_pass rfl ?_
    refine WO_pass rfl ?_
    refine WO_pure (v := (.bool false)) rfl rfl ?_
    refine WO_nil ?_
    exact ⟨rfl, rfl, rfl, (by show ((.bool false) : Value) = (.bool (decide (0 < t.length ∧ ((byteAt t 0).toNat : Int) = 32))); show Value.bool _ = Value.bool _; rw [Value.bool.injEq, Bool.eq_iff_iff]; first | (simp [c1]; done) | (simp [c1]; omega) | (simp_all []; done) | (simp_all []; omega) | (simp only [Bool.or_eq_true, Bool.and_eq_true, Bool.not_eq_true', decide_eq_true_eq, decide_eq_false_iff_not]; grind))⟩
  ·rintro σ1 _ ⟨rfl, h1_0, h1_1, h1_13⟩
   refine W_anchor (d := 0) h1_0 (W_anchor (d := 1) h1_1 (W_anchor (d := 13) h1_13 (?_)))
   refine W_if (p := 0 < t.length ∧ ((byteAt t 0).toNat : Int) = 32) rfl (fun c2 => ?_) (fun c2 => ?_)
   ·refine W_skip ?_
    refine W_block ?_
    refine W_reg ?_
    refine WO_pure (v := (S t)) rfl rfl ?_
    refine WO_sslo (l := t) (i := 1) rfl rfl rfl Tryd.underlying9 (by first | rfl | omega) (by first | omega | (simp; done) | (simp; omega)) ?_
    refine WO_pure (v := (S ((t.drop 1)))) rfl rfl ?_
    refine WO_nil ?_
    refine ⟨_, ?_, (t.drop 1), rfl, rfl, rfl, ?_, ?_, rfl⟩
    ·rw [List.length_drop]; omega
    ·rw [List.length_drop]; omega
    ·rw [f1_2, skip_step c2]
   ·refine W_exit ?_
    refine W_seq ?_
    refine W_reg ?_
    refine WO_pure (v := (S t)) rfl rfl ?_
    refine WO_pure (v := (S t)) rfl rfl ?_
    refine WO_nil ?_
    refine W_ret ?_
    refine body_ret1 rfl (v0 := (S t)) rfl ?_
    exact ⟨by rw [f1_2, skip_done c2], rfl⟩
set_option maxHeartbeats 400000 in
set_option maxRecDepth 100000 in
theorem TrimLeft_any (s : List UInt8) (w : World) (hl : s.length ≤ 9223372036854775807) :
  Calls Tryd.prog 46 #[(S s), (S ([32]))] w (Ret fun v w' => v = S (skipB s) ∧ w = w') := by
 refine calls_W Tryd.func46 rfl Tryd.ntmps46 ?_
 refine W_seq ?_
 refine W_reg ?_
 refine WO_pure (v := (S [])) rfl rfl ?_
 refine WO_nil ?_
 refine W_seq ?_
 refine W_cut (fun σ' w' => w = w' ∧ σ' 0 = (S s) ∧ σ' 1 = (S ([32])) ∧ σ' 12 = (.bool (decide (s = [])))) ?_ ?_
 ·refine W_reg ?_
  refine WO_pure (v := (S s)) rfl rfl ?_
  refine WO_seql (l1 := s) (l2 := []) rfl rfl rfl ?_
  refine WO_pure (v := (.bool (decide (s = [])))) rfl rfl ?_
  refine WO_splitp 9 (p := s = []) (by exact rfl) (fun c1 => ?_) (fun c1 => ?_)
  ·refine WO_pass rfl ?_
   refine WO_pass rfl ?_
   refine WO_pure (v := (.bool true)) rfl rfl ?_
   refine WO_nil ?_
   exact ⟨rfl, rfl, rfl, (by show ((.bool true) : Value) = (.bool (decide (s = []))); show Value.bool _ = Value.bool _; rw [Value.bool.injEq, Bool.eq_iff_iff]; first | (simp [c1]; done) | (simp [c1]; omega) | (simp_all []; done) | (simp_all []; omega) | (simp only [Bool.or_eq_true, Bool.and_eq_true, Bool.not_eq_true', decide_eq_true_eq, decide_eq_false_iff_not]; grind))⟩
  ·refine WO_pure (v := (S ([32]))) rfl rfl ?_
   refine WO_seql (l1 := [32]) (l2 := []) rfl rfl rfl ?_
   refine WO_pure (v := (.bool (decide ([32] = [])))) rfl rfl ?_
   refine WO_nil ?_
   exact ⟨rfl, rfl, rfl, (by show ((.bool (decide ([32] = []))) : Value) = (.bool (decide (s = []))); show Value.bool _ = Value.bool _; rw [Value.bool.injEq, Bool.eq_iff_iff]; first | (simp [c1]; done) | (simp [c1]; omega) | (simp_all []; done) | (simp_all []; omega) | (simp only [Bool.or_eq_true, Bool.and_eq_true, Bool.not_eq_true', decide_eq_true_eq, decide_eq_false_iff_not]; grind))⟩
 ·rintro σ1 _ ⟨rfl, h1_0, h1_1, h1_12⟩
  refine W_anchor (d := 0) h1_0 (W_anchor (d := 1) h1_1 (W_anchor (d := 12) h1_12 (?_)))
  refine W_if (p := s = []) rfl (fun c2 => ?_) (fun c2 => ?_)
  ·refine W_seq ?_
   refine W_reg ?_
   refine WO_pure (v := (S s)) rfl rfl ?_
   refine WO_pure (v := (S s)) rfl rfl ?_
   refine WO_nil ?_
   refine W_ret ?_
   refine body_ret1 rfl (v0 := (S s)) rfl ?_
   exact ⟨by subst_vars; rfl, rfl⟩
  ·refine W_skip ?_
   refine W_seq ?_
   refine W_cut (fun σ' w' => w = w' ∧ σ' 0 = (S s) ∧ σ' 1 = (S ([32])) ∧ σ' 21 = (.bool true)) ?_ ?_
   ·refine W_reg ?_
    refine WO_pure (v := (S ([32]))) rfl rfl ?_
    refine WO_slen (l := [32]) rfl rfl Tryd.underlying9 ?_
    refine WO_pure (v := (.bool true)) rfl rfl ?_
    refine WO_pure (v := (.bool true)) rfl rfl ?_
    refine WO_pure (v := (S ([32]))) rfl rfl ?_
    refine WO_sidx (l := [32]) (j := 0) rfl rfl rfl Tryd.underlying9 (by first | rfl | omega) (by first | omega | (simp; done) | (simp; omega)) ?_
    refine WO_pure (v := (.bool (decide (((byteAt ([32]) 0).toNat : Int) < 128)))) rfl rfl ?_
    refine WO_pure (v := (.bool (decide (((byteAt ([32]) 0).toNat : Int) < 128)))) rfl rfl ?_
    refine WO_nil ?_
    exact ⟨rfl, rfl, rfl, (by show ((.bool (decide (((byteAt ([32]) 0).toNat : Int) < 128))) : Value) = (.bool true); all_goals first | rfl | simp)⟩
   ·rintro σ2 _ ⟨rfl, h2_0, h2_1, h2_21⟩
    refine W_anchor (d := 0) h2_0 (W_anchor (d := 1) h2_1 (W_anchor (d := 21) h2_21 (?_)))
    refine W_true rfl ?_
    refine W_seq ?_
    refine W_reg ?_
    refine WO_pure (v := (S s)) rfl rfl ?_
    refine WO_pure (v := (S ([32]))) rfl rfl ?_
    refine WO_sidx (l := [32]) (j := 0) rfl rfl rfl Tryd.underlying9 (by first | rfl | omega) (by first | omega | (simp; done) | (simp; omega)) ?_
    refine WO_call rfl (by exact en_58) (trimByte_any s _ hl) ?_
    rintro _ _ ⟨rfl, rfl⟩
    refine WO_pure (v := (S ((skipB s)))) rfl rfl ?_
    refine WO_nil ?_
    refine W_ret ?_
    refine body_ret1 rfl (v0 := (S ((skipB s)))) rfl ?_
    exact ⟨rfl, rfl⟩
set_option maxHeartbeats 400000 in
set_option maxRecDepth 100000 in
theorem hasPrefix_any (s : List UInt8) (c : UInt8) (w : World) (hl : s.length ≤ 9223372036854775807) :
  Calls Tryd.prog 62 #[(S s), (S ([c]))] w (Ret fun v w' => v = .bool (headIs s c) ∧ w = w') := by
 refine calls_W Tryd.func62 rfl Tryd.ntmps62 ?_
 refine W_seq ?_
 refine W_reg ?_
 refine WO_pure (v := (.bool false)) rfl rfl ?_
 refine WO_nil ?_
 refine W_cut (fun σ' w' => w = w' ∧ σ' 4 = (.bool (headIs s c))) ?_ ?_
 ·refine W_reg ?_
  refine WO_pure (v := (S s)) rfl rfl ?_
  refine WO_slen (l := s) rfl rfl Tryd.underlying9 ?_
  refine WO_pure (v := (S ([c]))) rfl rfl ?_
  refine WO_slen (l := [c]) rfl rfl Tryd.underlying9 ?_
  refine WO_pure (v := (.bool (decide (1 ≤ (s.length : Int))))) rfl rfl ?_
  refine WO_pure (v := (.bool (decide (1 ≤ (s.length : Int))))) rfl rfl ?_
  refine WO_splitp 10 (p := 1 ≤ (s.length : Int)) (by exact rfl) (fun c1 => ?_) (fun c1 => ?_)
  ·refine WO_pure (v := (S s)) rfl rfl ?_
   refine WO_pure (v := (S ([c]))) rfl rfl ?_
   refine WO_slen (l := [c]) rfl rfl Tryd.underlying9 ?_
   refine WO_sshi (l := s) (j := 1) rfl rfl rfl Tryd.underlying9 (by first | rfl | omega) (by first | omega | (simp; done) | (simp; omega)) ?_
   refine WO_pure (v := (S ([c]))) rfl rfl ?_
   refine WO_seql (l1 := (s.take 1)) (l2 := [c]) rfl rfl rfl ?_
   refine WO_pure (v := (.bool (decide ((s.take 1) = [c])))) rfl rfl ?_
   refine WO_pure (v := (.bool (decide ((s.take 1) = [c])))) rfl rfl ?_
   refine WO_nil ?_
   exact ⟨rfl, (by show ((.bool (decide ((s.take 1) = [c]))) : Value) = (.bool (headIs s c)); first | (show Value.bool _ = Value.bool _; rw [head_nil (by omega)]) | (show Value.bool _ = Value.bool _; simp [headIs, c1]; done) | rfl)⟩
  ·refine WO_pass rfl ?_
   refine WO_pass rfl ?_
   refine WO_pass rfl ?_
   refine WO_pass rfl ?_
   refine WO_pass rfl ?_
   refine WO_pass rfl ?_
   refine WO_pure (v := (.bool false)) rfl rfl ?_
   refine WO_pure (v := (.bool false)) rfl rfl ?_
   refine WO_nil ?_
   exact ⟨rfl, (by show ((.bool false) : Value) = (.bool (headIs s c)); first | (show Value.bool _ = Value.bool _; rw [head_nil (by omega)]) | (show Value.bool _ = Value.bool _; simp [headIs, c1]; done) | rfl)⟩
 ·rintro σ1 _ ⟨rfl, h1_4⟩
  refine W_anchor (d := 4) h1_4 (?_)
  refine W_ret ?_
  refine body_ret1 rfl (v0 := (.bool (headIs s c))) rfl ?_
  exact ⟨rfl, rfl⟩
set_option maxHeartbeats 400000 in
set_option maxRecDepth 100000 in
theorem HasPrefix_any (s : List UInt8) (c : UInt8) (w : World) (hl : s.length ≤ 9223372036854775807) :
  Calls Tryd.prog 47 #[(S s), (S ([c]))] w (Ret fun v w' => v = .bool (headIs s c) ∧ w = w') := by
 refine calls_W Tryd.func47 rfl Tryd.ntmps47 ?_
 refine W_seq ?_
 refine W_reg ?_
 refine WO_pure (v := (.bool false)) rfl rfl ?_
 refine WO_nil ?_
 refine W_seq ?_
 refine W_reg ?_
 refine WO_pure (v := (S s)) rfl rfl ?_
 refine WO_pure (v := (S ([c]))) rfl rfl ?_
 refine WO_call rfl (by exact en_62) (hasPrefix_any s c _ hl) ?_
 rintro _ _ ⟨rfl, rfl⟩
 refine WO_pure (v := (.bool (headIs s c))) rfl rfl ?_
 refine WO_nil ?_
 refine W_ret ?_
 refine body_ret1 rfl (v0 := (.bool (headIs s c))) rfl ?_
 exact ⟨rfl, rfl⟩
end Go.Proofs.YthhacfehjgfpbaaDoor
end
section
namespace Go.Proofs.YthhacfehjgfpbaaDoor
open Go Go.RowKit
def nlen (r : List UInt8) : Nat := if (headIs r 40 || headIs r 41) = true then 1 else scanW r 0
theorem next_nlen (s : List UInt8) : nextW s = ((skipB s).take (nlen (skipB s)), (skipB s).drop (nlen (skipB s))) := by
 unfold nextW nlen
 cases h : skipB s with
 | nil => rfl
 | cons c r =>
  have e : ∀ k : UInt8, headIs (c :: r) k = true ↔ c = k := by
   intro k; rw [head_at]; simp [byteAt]
  by_cases hc : c = 40 ∨ c = 41
  ·simp only [if_pos hc]
   rw [if_pos (by rw [Bool.or_eq_true, e, e]; exact hc)]; rfl
  ·simp only [if_neg hc]
   rw [if_neg (by rw [Bool.or_eq_true, e, e]; exact hc)]
theorem nlen_one {r : List UInt8} (h : (headIs r 40 || headIs r 41) = true) : nlen r = 1 ∧ 1 ≤ r.length := by
 refine ⟨by unfold nlen; rw [if_pos h], ?_⟩
 rw [Bool.or_eq_true, head_at, head_at] at h
 omega
theorem nlen_scan {r : List UInt8} (h : (headIs r 40 || headIs r 41) = false) : nlen r = scanW r 0 := by unfold nlen; rw [if_neg (by rw [h]; simp)]
set_option maxHeartbeats 1000000 in
set_option maxRecDepth 100000 in
theorem next_any (b : Nat) (txt wd : List UInt8) (w : World) (hb : w.heap[b]? = some (.cells #[S (txt), S (wd)] 69 (0, 0))) (hl : txt.length ≤ 8388608) :
  Calls Tryd.prog 34 #[(.pointer (some ⟨b, 0, none⟩))] w (Ret fun v w' => w'.heap[b]? = some (.cells #[S ((nextW txt).2), S ((nextW txt).1)] 69 (0, 0)) ∧ w.grownBy w' (some b)) := by
 have hsl := skipB_le txt
 refine calls_W Tryd.func34 rfl Tryd.ntmps34 ?_
 refine W_scopeJ 0 (fun σ' w' => ∃ (m : Nat), σ' 0 = (.pointer (some ⟨b, 0, none⟩)) ∧ σ' 2 = (.int .i64 ((m : Int))) ∧ m = nlen (skipB txt) ∧ m ≤ (skipB txt).length ∧ w'.heap[b]? = some (.cells #[S ((skipB txt)), S wd] 69 (0, 0)) ∧ w.grownBy w' (some b)) (rest := _) rfl ?_ ?_
 ·refine W_seq ?_
  refine W_reg ?_
  refine WO_pure (v := (.int .i64 0)) rfl rfl ?_
  refine WO_pure (v := (.int .i64 0)) rfl rfl ?_
  refine WO_nil ?_
  refine W_seq ?_
  refine W_reg ?_
  refine WO_pure (v := (.pointer (some ⟨b, 0, none⟩))) rfl rfl ?_
  refine WO_pure (v := (.pointer (some ⟨b, 0, none⟩))) rfl rfl ?_
  refine WO_pure (v := (.pointer (some ⟨b, 0, none⟩))) rfl rfl ?_
  refine WO_same (v := (.pointer (some ⟨b, 0, none⟩))) rfl (by kernel_rfl) ?_
  refine WO_load (a := ⟨b, 0, none⟩) (v := (S txt)) rfl rfl Tryd.underlying9 rfl (cell_of hb rfl) ?_
  refine WO_call rfl (by exact en_46) (TrimLeft_any txt _ (by omega)) ?_
  rintro _ _ ⟨rfl, rfl⟩
  refine WO_pure (v := (.pointer (some ⟨b, 0, none⟩))) rfl rfl ?_
  refine WO_same (v := (.pointer (some ⟨b, 0, none⟩))) rfl (by kernel_rfl) ?_
  have p2 := hb
  refine WO_store (b := b) (o := 0) (v := (S ((skipB txt)))) rfl rfl rfl (fun _ => by kernel_rfl) rfl p2 (by simp) (fun w2 u2 => ?_)
  have e2 : w2.heap[b]? = some (.cells #[(S ((skipB txt))), (S wd)] 69 (0, 0)) := u2.here
  have z2 := u2.size
  refine WO_nil ?_
  refine W_seq ?_
  refine W_cut (fun σ' w' => w2 = w' ∧ σ' 0 = (.pointer (some ⟨b, 0, none⟩)) ∧ σ' 2 = (.int .i64 0) ∧ σ' 3 = (.int .i64 0) ∧ σ' 23 = (.bool ((headIs (skipB txt) 40 || headIs (skipB txt) 41)))) ?_ ?_
  ·refine W_reg ?_
   refine WO_pure (v := (.pointer (some ⟨b, 0, none⟩))) rfl rfl ?_
   refine WO_pure (v := (.pointer (some ⟨b, 0, none⟩))) rfl rfl ?_
   refine WO_same (v := (.pointer (some ⟨b, 0, none⟩))) rfl (by kernel_rfl) ?_
   refine WO_load (a := ⟨b, 0, none⟩) (v := (S ((skipB txt)))) rfl rfl Tryd.underlying9 rfl (cell_of e2 rfl) ?_
   refine WO_call rfl (by exact en_47) (HasPrefix_any (skipB txt) 40 _ (by omega)) ?_
   rintro _ _ ⟨rfl, rfl⟩
   refine WO_pure (v := (.bool (headIs (skipB txt) 40))) rfl rfl ?_
   refine WO_split 17 (b := headIs (skipB txt) 40) (by exact rfl) (fun c1 => ?_) (fun c1 => ?_)
   ·refine WO_pass rfl ?_
    refine WO_pass rfl ?_
    refine WO_pass rfl ?_
    refine WO_pass rfl ?_
    refine WO_pass rfl ?_
    refine WO_pure (v := (.bool true)) rfl rfl ?_
    refine WO_nil ?_
    exact ⟨rfl, rfl, rfl, rfl, (by show ((.bool true) : Value) = (.bool ((headIs (skipB txt) 40 || headIs (skipB txt) 41))); show Value.bool _ = Value.bool _; rw [Value.bool.injEq, Bool.eq_iff_iff]; first | (simp [c1]; done) | (simp [c1]; omega) | (simp_all []; done) | (simp_all []; omega) | (simp only [Bool.or_eq_true, Bool.and_eq_true, Bool.not_eq_true', decide_eq_true_eq, decide_eq_false_iff_not]; grind))⟩
   ·refine WO_pure (v := (.pointer (some ⟨b, 0, none⟩))) rfl rfl ?_
    refine WO_pure (v := (.pointer (some ⟨b, 0, none⟩))) rfl rfl ?_
    refine WO_same (v := (.pointer (some ⟨b, 0, none⟩))) rfl (by kernel_rfl) ?_
    refine WO_load (a := ⟨b, 0, none⟩) (v := (S ((skipB txt)))) rfl rfl Tryd.underlying9 rfl (cell_of e2 rfl) ?_
    refine WO_call rfl (by exact en_47) (HasPrefix_any (skipB txt) 41 _ (by omega)) ?_
    rintro _ _ ⟨rfl, rfl⟩
    refine WO_pure (v := (.bool (headIs (skipB txt) 41))) rfl rfl ?_
    refine WO_nil ?_
    exact ⟨rfl, rfl, rfl, rfl, (by show ((.bool (headIs (skipB txt) 41)) : Value) = (.bool ((headIs (skipB txt) 40 || headIs (skipB txt) 41))); show Value.bool _ = Value.bool _; rw [Value.bool.injEq, Bool.eq_iff_iff]; first | (simp [c1]; done) | (simp [c1]; omega) | (simp_all []; done) | (simp_all []; omega) | (simp only [Bool.or_eq_true, Bool.and_eq_true, Bool.not_eq_true', decide_eq_true_eq, decide_eq_false_iff_not]; grind))⟩
  ·rintro σ1 _ ⟨rfl, h1_0, h1_2, h1_3, h1_23⟩
   refine W_anchor (d := 0) h1_0 (W_anchor (d := 2) h1_2 (W_anchor (d := 3) h1_3 (W_anchor (d := 23) h1_23 (?_))))
   refine W_cond (t := (headIs (skipB txt) 40 || headIs (skipB txt) 41)) rfl (fun c2 => ?_) (fun c2 => ?_)
   ·refine W_seq ?_
    refine W_reg ?_
    refine WO_pure (v := (.int .i64 1)) rfl rfl ?_
    refine WO_nil ?_
    refine W_goto ?_
    refine ⟨rfl, 1, rfl, rfl, ?_, ?_, ?_, ?_⟩
    ·exact (nlen_one c2).1.symm
    ·exact (nlen_one c2).2
    ·exact e2
    ·exact (grown_upd (grown_refl w _) u2 (by first | (left; omega) | (right; rfl)))
   ·refine W_skip ?_
    refine W_seq ?_
    refine W_block ?_
    refine W_loop (fun g σ' w' => ∃ (j o : Nat), w2 = w' ∧ σ' 0 = (.pointer (some ⟨b, 0, none⟩)) ∧ σ' 2 = (.int .i64 ((j : Int))) ∧ σ' 3 = (.int .i64 ((o : Int))) ∧ j ≤ (skipB txt).length ∧ o ≤ j ∧ scanW (skipB txt) 0 = j + scanW ((skipB txt).drop j) o ∧ g = (skipB txt).length - j) ?_ ?_
    ·refine ⟨_, 0, 0, rfl, rfl, rfl, rfl, ?_, ?_, ?_, rfl⟩
     ·omega
     ·omega
     ·simp
    ·rintro g σl1 _ ⟨j, o, rfl, l1_0, l1_2, l1_3, f1_1, f1_2, f1_3, rfl⟩
     refine W_anchor (d := 0) l1_0 (W_anchor (d := 2) l1_2 (W_anchor (d := 3) l1_3 (?_)))
     refine W_seq ?_
     refine W_cut (fun σ' w' => w2 = w' ∧ σ' 0 = (.pointer (some ⟨b, 0, none⟩)) ∧ σ' 2 = (.int .i64 ((j : Int))) ∧ σ' 3 = (.int .i64 ((o : Int))) ∧ σ' 39 = (.bool (decide (j < (skipB txt).length ∧ ¬ ((byteAt (skipB txt) j).toNat : Int) = 32)))) ?_ ?_
     ·refine W_reg ?_
      refine WO_pure (v := (.int .i64 ((j : Int)))) rfl rfl ?_
      refine WO_pure (v := (.pointer (some ⟨b, 0, none⟩))) rfl rfl ?_
      refine WO_pure (v := (.pointer (some ⟨b, 0, none⟩))) rfl rfl ?_
      refine WO_same (v := (.pointer (some ⟨b, 0, none⟩))) rfl (by kernel_rfl) ?_
      refine WO_load (a := ⟨b, 0, none⟩) (v := (S ((skipB txt)))) rfl rfl Tryd.underlying9 rfl (cell_of e2 rfl) ?_
      refine WO_slen (l := (skipB txt)) rfl rfl Tryd.underlying9 ?_
      refine WO_pure (v := (.bool (decide ((j : Int) < ((skipB txt).length : Int))))) rfl rfl ?_
      refine WO_pure (v := (.bool (decide ((j : Int) < ((skipB txt).length : Int))))) rfl rfl ?_
      refine WO_splitp 31 (p := (j : Int) < ((skipB txt).length : Int)) (by exact rfl) (fun c3 => ?_) (fun c3 => ?_)
      ·refine WO_pure (v := (.pointer (some ⟨b, 0, none⟩))) rfl rfl ?_
       refine WO_pure (v := (.pointer (some ⟨b, 0, none⟩))) rfl rfl ?_
       refine WO_same (v := (.pointer (some ⟨b, 0, none⟩))) rfl (by kernel_rfl) ?_
       refine WO_load (a := ⟨b, 0, none⟩) (v := (S ((skipB txt)))) rfl rfl Tryd.underlying9 rfl (cell_of e2 rfl) ?_
       refine WO_pure (v := (.int .i64 ((j : Int)))) rfl rfl ?_
       refine WO_sidx (l := (skipB txt)) (j := j) rfl rfl rfl Tryd.underlying9 (by first | rfl | omega) (by first | omega | (simp; done) | (simp; omega)) ?_
       refine WO_pure (v := (.bool (!decide (((byteAt (skipB txt) j).toNat : Int) = 32)))) rfl rfl ?_
       refine WO_pure (v := (.bool (!decide (((byteAt (skipB txt) j).toNat : Int) = 32)))) rfl rfl ?_
       refine WO_nil ?_
       exact ⟨rfl, rfl, rfl, rfl, (by show ((.bool (!decide (((byteAt (skipB txt) j).toNat : Int) = 32))) : Value) = (.bool (decide (j < (skipB txt).length ∧ ¬ ((byteAt (skipB txt) j).toNat : Int) = 32))); show Value.bool _ = Value.bool _; rw [Value.bool.injEq, Bool.eq_iff_iff]; first | (simp [c3]; done) | (simp [c3]; omega) | (simp_all []; done) | (simp_all []; omega) | (simp only [Bool.or_eq_true, Bool.and_eq_true, Bool.not_eq_true', decide_eq_true_eq, decide_eq_false_iff_not]; grind))⟩
      ·refine WO_pass rfl ?_
       refine WO_pass rfl ?_
       refine WO_pass rfl ?_
       refine WO_pass rfl ?_
       refine WO_pass rfl ?_
       refine WO_pass rfl ?_
       refine WO_pass rfl ?_
       refine WO_pure (v := (.bool false)) rfl rfl ?_
       refine WO_nil ?_
       exact ⟨rfl, rfl, rfl, rfl, (by show ((.bool false) : Value) = (.bool (decide (j < (skipB txt).length ∧ ¬ ((byteAt (skipB txt) j).toNat : Int) = 32))); show Value.bool _ = Value.bool _; rw [Value.bool.injEq, Bool.eq_iff_iff]; first | (simp [c3]; done) | (simp [c3]; omega) | (simp_all []; done) | (simp_all []; omega) | (simp only [Bool.or_eq_true, Bool.and_eq_true, Bool.not_eq_true', decide_eq_true_eq, decide_eq_false_iff_not]; grind))⟩
     ·rintro σ2 _ ⟨rfl, h2_0, h2_2, h2_3, h2_39⟩
      refine W_anchor (d := 0) h2_0 (W_anchor (d := 2) h2_2 (W_anchor (d := 3) h2_3 (W_anchor (d := 39) h2_39 (?_))))
      refine W_if (p := j < (skipB txt).length ∧ ¬ ((byteAt (skipB txt) j).toNat : Int) = 32) rfl (fun c4 => ?_) (fun c4 => ?_)
      ·refine W_skip ?_
       refine W_seq ?_
       refine W_block ?_
       refine W_seq ?_
       refine W_reg ?_
       refine WO_pure (v := (.pointer (some ⟨b, 0, none⟩))) rfl rfl ?_
       refine WO_pure (v := (.pointer (some ⟨b, 0, none⟩))) rfl rfl ?_
       refine WO_same (v := (.pointer (some ⟨b, 0, none⟩))) rfl (by kernel_rfl) ?_
       refine WO_load (a := ⟨b, 0, none⟩) (v := (S ((skipB txt)))) rfl rfl Tryd.underlying9 rfl (cell_of e2 rfl) ?_
       refine WO_pure (v := (.int .i64 ((j : Int)))) rfl rfl ?_
       refine WO_sidx (l := (skipB txt)) (j := j) rfl rfl rfl Tryd.underlying9 (by first | rfl | omega) (by first | omega | (simp; done) | (simp; omega)) ?_
       refine WO_nil ?_
       refine W_block ?_
       refine W_seq ?_
       refine W_reg ?_
       refine WO_pure (v := (.bool (decide (((byteAt (skipB txt) j).toNat : Int) = 40)))) rfl rfl ?_
       refine WO_pure (v := (.bool (decide (((byteAt (skipB txt) j).toNat : Int) = 40)))) rfl rfl ?_
       refine WO_nil ?_
       refine W_if (p := ((byteAt (skipB txt) j).toNat : Int) = 40) rfl (fun c5 => ?_) (fun c5 => ?_)
       ·refine W_reg ?_
        refine WO_pure (v := (.int .i64 ((o : Int)))) rfl rfl ?_
        refine WO_add (b := 1) (v := (o : Int) + 1) rfl rfl rfl (by simp only [kLo, kHi]; omega) ?_
        refine WO_pure (v := (.int .i64 ((o : Int) + 1))) rfl rfl ?_
        refine WO_nil ?_
        refine W_reg ?_
        refine WO_pure (v := (.int .i64 ((j : Int)))) rfl rfl ?_
        refine WO_add (b := 1) (v := (j : Int) + 1) rfl rfl rfl (by simp only [kLo, kHi]; omega) ?_
        refine WO_pure (v := (.int .i64 ((j : Int) + 1))) rfl rfl ?_
        refine WO_nil ?_
        refine ⟨_, ?_, (j + 1), (o + 1), rfl, rfl, rfl, rfl, ?_, ?_, ?_, rfl⟩
        ·omega
        ·omega
        ·omega
        ·rw [f1_3, scan_open c4 c5]; omega
       ·refine W_seq ?_
        refine W_reg ?_
        refine WO_pure (v := (.bool (decide (((byteAt (skipB txt) j).toNat : Int) = 41)))) rfl rfl ?_
        refine WO_pure (v := (.bool (decide (((byteAt (skipB txt) j).toNat : Int) = 41)))) rfl rfl ?_
        refine WO_nil ?_
        refine W_if (p := ((byteAt (skipB txt) j).toNat : Int) = 41) rfl (fun c6 => ?_) (fun c6 => ?_)
        ·refine W_seq ?_
         refine W_seq ?_
         refine W_reg ?_
         refine WO_pure (v := (.int .i64 ((o : Int)))) rfl rfl ?_
         refine WO_pure (v := (.bool (decide ((o : Int) = 0)))) rfl rfl ?_
         refine WO_nil ?_
         refine W_if (p := (o : Int) = 0) rfl (fun c7 => ?_) (fun c7 => ?_)
         ·refine W_goto ?_
          refine ⟨rfl, j, rfl, rfl, ?_, ?_, ?_, ?_⟩
          ·rw [nlen_scan (by simpa using c2), f1_3, scan_stop c4 ⟨c6, by omega⟩]; omega
          ·omega
          ·exact e2
          ·exact (grown_upd (grown_refl w _) u2 (by first | (left; omega) | (right; rfl)))
         ·refine W_skip ?_
          refine W_reg ?_
          refine WO_pure (v := (.int .i64 ((o : Int)))) rfl rfl ?_
          refine WO_sub (v := ((o - 1 : Nat) : Int)) (hv := by omega) rfl rfl rfl (by simp only [kLo, kHi]; omega) ?_
          refine WO_pure (v := (.int .i64 (((o - 1 : Nat) : Int)))) rfl rfl ?_
          refine WO_nil ?_
          refine W_reg ?_
          refine WO_pure (v := (.int .i64 ((j : Int)))) rfl rfl ?_
          refine WO_add (b := 1) (v := (j : Int) + 1) rfl rfl rfl (by simp only [kLo, kHi]; omega) ?_
          refine WO_pure (v := (.int .i64 ((j : Int) + 1))) rfl rfl ?_
          refine WO_nil ?_
          refine ⟨_, ?_, (j + 1), (o - 1), rfl, rfl, rfl, rfl, ?_, ?_, ?_, rfl⟩
          ·omega
          ·omega
          ·omega
          ·rw [f1_3, scan_close c4 c6 (by omega)]; omega
        ·refine W_skip ?_
         refine W_reg ?_
         refine WO_pure (v := (.int .i64 ((j : Int)))) rfl rfl ?_
         refine WO_add (b := 1) (v := (j : Int) + 1) rfl rfl rfl (by simp only [kLo, kHi]; omega) ?_
         refine WO_pure (v := (.int .i64 ((j : Int) + 1))) rfl rfl ?_
         refine WO_nil ?_
         refine ⟨_, ?_, (j + 1), o, rfl, rfl, rfl, rfl, ?_, ?_, ?_, rfl⟩
         ·omega
         ·omega
         ·omega
         ·rw [f1_3, scan_else c4 c5 c6]; omega
      ·refine W_exit ?_
       refine W_seq ?_
       refine W_label ?_
       refine W_order (by kernel_rfl) (fun w3 d3 => ?_)
       have z3 := d3.ext.size
       refine WX_take 0 rfl (by kernel_rfl) (by kernel_rfl) (by kernel_rfl) rfl (fun _ => pure_run (v := (.pointer (some ⟨b, 0, none⟩))) rfl) ?_
       refine WX_take 1 rfl (by kernel_rfl) (by kernel_rfl) (by kernel_rfl) rfl (fun _ => pure_run (v := (.pointer (some ⟨b, 0, none⟩))) rfl) ?_
       refine WX_take 2 rfl (by kernel_rfl) (by kernel_rfl) (by kernel_rfl) rfl (fun _ => pure_run (v := (.pointer (some ⟨b, 0, none⟩))) rfl) ?_
       refine WX_take 3 rfl (by kernel_rfl) (by kernel_rfl) (by kernel_rfl) rfl (fun _ => pure_run (v := (.pointer (some ⟨b, 0, none⟩))) rfl) ?_
       refine WX_take 4 rfl (by kernel_rfl) (by kernel_rfl) (by kernel_rfl) rfl (v := (.pointer (some ⟨b, 0, none⟩))) (fun _ => by kernel_rfl) ?_
       refine WX_take 6 rfl (by kernel_rfl) (by kernel_rfl) (by kernel_rfl) rfl (fun _ => pure_run (v := (.int .i64 ((j : Int)))) rfl) ?_
       refine WX_take 8 rfl (by kernel_rfl) (by kernel_rfl) (by kernel_rfl) rfl (fun _ => pure_run (v := (.pointer (some ⟨b, 0, none⟩))) rfl) ?_
       refine WX_take 9 rfl (by kernel_rfl) (by kernel_rfl) (by kernel_rfl) rfl (fun _ => pure_run (v := (.pointer (some ⟨b, 0, none⟩))) rfl) ?_
       refine WX_take 10 rfl (by kernel_rfl) (by kernel_rfl) (by kernel_rfl) rfl (v := (.pointer (some ⟨b, 0, none⟩))) (fun _ => by kernel_rfl) ?_
       refine WX_take 12 rfl (by kernel_rfl) (by kernel_rfl) (by kernel_rfl) rfl (fun _ => pure_run (v := (.int .i64 ((j : Int)))) rfl) ?_
       refine WX_two 5 11 (by kernel_rfl) rfl rfl ?_ ?_
       ·refine WO_load (a := ⟨b, 0, none⟩) (v := (S ((skipB txt)))) rfl rfl Tryd.underlying9 rfl (cell_of (drew_keep d3 e2) rfl) ?_
        refine WO_nil (⟨rfl, ?_⟩)
        refine WX_take 7 rfl (by kernel_rfl) (by kernel_rfl) (by kernel_rfl) rfl (fun _ => R_sshi (l := (skipB txt)) (j := j) rfl rfl Tryd.underlying9 (by first | rfl | omega) (by first | omega | (simp; done) | (simp; omega))) ?_
        refine WX_only 11 (by kernel_rfl) rfl ?_
        refine WO_load (a := ⟨b, 0, none⟩) (v := (S ((skipB txt)))) rfl rfl Tryd.underlying9 rfl (cell_of (drew_keep d3 e2) rfl) ?_
        refine WO_nil (⟨rfl, ?_⟩)
        refine WX_take 13 rfl (by kernel_rfl) (by kernel_rfl) (by kernel_rfl) rfl (fun _ => R_sslo (l := (skipB txt)) (i := j) rfl rfl Tryd.underlying9 (by first | rfl | omega) (by first | omega | (simp; done) | (simp; omega))) ?_
        refine WX_take 14 rfl (by kernel_rfl) (by kernel_rfl) (by kernel_rfl) rfl (fun _ => pure_run (v := (.pointer (some ⟨b, 0, none⟩))) rfl) ?_
        refine WX_take 15 rfl (by kernel_rfl) (by kernel_rfl) (by kernel_rfl) rfl (v := (.pointer (some ⟨b, 1, none⟩))) (fun _ => by kernel_rfl) ?_
        refine WX_only 16 (by kernel_rfl) rfl ?_
        have p4 := (drew_keep d3 e2)
        refine WO_store (b := b) (o := 1) (v := (S (((skipB txt).take j)))) rfl rfl rfl (fun _ => by kernel_rfl) rfl p4 (by simp) (fun w4 u4 => ?_)
        have e4 : w4.heap[b]? = some (.cells #[(S ((skipB txt))), (S (((skipB txt).take j)))] 69 (0, 0)) := u4.here
        have z4 := u4.size
        refine WO_nil (⟨rfl, ?_⟩)
        refine WX_take 17 rfl (by kernel_rfl) (by kernel_rfl) (by kernel_rfl) rfl (fun _ => pure_run (v := (.pointer (some ⟨b, 0, none⟩))) rfl) ?_
        refine WX_take 18 rfl (by kernel_rfl) (by kernel_rfl) (by kernel_rfl) rfl (v := (.pointer (some ⟨b, 0, none⟩))) (fun _ => by kernel_rfl) ?_
        refine WX_only 19 (by kernel_rfl) rfl ?_
        have p5 := e4
        refine WO_store (b := b) (o := 0) (v := (S (((skipB txt).drop j)))) rfl rfl rfl (fun _ => by kernel_rfl) rfl p5 (by simp) (fun w5 u5 => ?_)
        have e5 : w5.heap[b]? = some (.cells #[(S (((skipB txt).drop j))), (S (((skipB txt).take j)))] 69 (0, 0)) := u5.here
        have z5 := u5.size
        refine WO_nil (⟨rfl, ?_⟩)
        refine WX_done (by kernel_rfl) ?_
        refine body_ret0 (fn := Tryd.f34) (by first | exact .inl rfl | exact .inr rfl) rfl ?_
        have hz : nlen (skipB txt) = j := by rw [nlen_scan (by simpa using c2), f1_3, scan_end c4]; rfl
        exact ⟨by rw [next_nlen, hz]; exact e5, (grown_upd (grown_upd (grown_drew (grown_upd (grown_refl w _) u2 (by first | (left; omega) | (right; rfl))) d3) u4 (by first | (left; omega) | (right; rfl))) u5 (by first | (left; omega) | (right; rfl)))⟩
       ·refine WO_load (a := ⟨b, 0, none⟩) (v := (S ((skipB txt)))) rfl rfl Tryd.underlying9 rfl (cell_of (drew_keep d3 e2) rfl) ?_
        refine WO_nil (⟨rfl, ?_⟩)
        refine WX_take 13 rfl (by kernel_rfl) (by kernel_rfl) (by kernel_rfl) rfl (fun _ => R_sslo (l := (skipB txt)) (i := j) rfl rfl Tryd.underlying9 (by first | rfl | omega) (by first | omega | (simp; done) | (simp; omega))) ?_
        refine WX_only 5 (by kernel_rfl) rfl ?_
        refine WO_load (a := ⟨b, 0, none⟩) (v := (S ((skipB txt)))) rfl rfl Tryd.underlying9 rfl (cell_of (drew_keep d3 e2) rfl) ?_
        refine WO_nil (⟨rfl, ?_⟩)
        refine WX_take 7 rfl (by kernel_rfl) (by kernel_rfl) (by kernel_rfl) rfl (fun _ => R_sshi (l := (skipB txt)) (j := j) rfl rfl Tryd.underlying9 (by first | rfl | omega) (by first | omega | (simp; done) | (simp; omega))) ?_
        refine WX_take 14 rfl (by kernel_rfl) (by kernel_rfl) (by kernel_rfl) rfl (fun _ => pure_run (v := (.pointer (some ⟨b, 0, none⟩))) rfl) ?_
        refine WX_take 15 rfl (by kernel_rfl) (by kernel_rfl) (by kernel_rfl) rfl (v := (.pointer (some ⟨b, 1, none⟩))) (fun _ => by kernel_rfl) ?_
        refine WX_only 16 (by kernel_rfl) rfl ?_
        have p6 := (drew_keep d3 e2)
        refine WO_store (b := b) (o := 1) (v := (S (((skipB txt).take j)))) rfl rfl rfl (fun _ => by kernel_rfl) rfl p6 (by simp) (fun w6 u6 => ?_)
        have e6 : w6.heap[b]? = some (.cells #[(S ((skipB txt))), (S (((skipB txt).take j)))] 69 (0, 0)) := u6.here
        have z6 := u6.size
        refine WO_nil (⟨rfl, ?_⟩)
        refine WX_take 17 rfl (by kernel_rfl) (by kernel_rfl) (by kernel_rfl) rfl (fun _ => pure_run (v := (.pointer (some ⟨b, 0, none⟩))) rfl) ?_
        refine WX_take 18 rfl (by kernel_rfl) (by kernel_rfl) (by kernel_rfl) rfl (v := (.pointer (some ⟨b, 0, none⟩))) (fun _ => by kernel_rfl) ?_
        refine WX_only 19 (by kernel_rfl) rfl ?_
        have p7 := e6
        refine WO_store (b := b) (o := 0) (v := (S (((skipB txt).drop j)))) rfl rfl rfl (fun _ => by kernel_rfl) rfl p7 (by simp) (fun w7 u7 => ?_)
        have e7 : w7.heap[b]? = some (.cells #[(S (((skipB txt).drop j))), (S (((skipB txt).take j)))] 69 (0, 0)) := u7.here
        have z7 := u7.size
        refine WO_nil (⟨rfl, ?_⟩)
        refine WX_done (by kernel_rfl) ?_
        refine body_ret0 (fn := Tryd.f34) (by first | exact .inl rfl | exact .inr rfl) rfl ?_
        have hz : nlen (skipB txt) = j := by rw [nlen_scan (by simpa using c2), f1_3, scan_end c4]; rfl
        exact ⟨by rw [next_nlen, hz]; exact e7, (grown_upd (grown_upd (grown_drew (grown_upd (grown_refl w _) u2 (by first | (left; omega) | (right; rfl))) d3) u6 (by first | (left; omega) | (right; rfl))) u7 (by first | (left; omega) | (right; rfl)))⟩
 ·rintro σj1 wj1 ⟨m, j1_0, j1_2, h1_1, h1_2, h1_3, h1_4⟩
  refine W_anchor (d := 0) j1_0 (W_anchor (d := 2) j1_2 (?_))
  refine W_seq ?_
  refine W_skip ?_
  refine W_order (by kernel_rfl) (fun w8 d8 => ?_)
  have z8 := d8.ext.size
  refine WX_take 0 rfl (by kernel_rfl) (by kernel_rfl) (by kernel_rfl) rfl (fun _ => pure_run (v := (.pointer (some ⟨b, 0, none⟩))) rfl) ?_
  refine WX_take 1 rfl (by kernel_rfl) (by kernel_rfl) (by kernel_rfl) rfl (fun _ => pure_run (v := (.pointer (some ⟨b, 0, none⟩))) rfl) ?_
  refine WX_take 2 rfl (by kernel_rfl) (by kernel_rfl) (by kernel_rfl) rfl (fun _ => pure_run (v := (.pointer (some ⟨b, 0, none⟩))) rfl) ?_
  refine WX_take 3 rfl (by kernel_rfl) (by kernel_rfl) (by kernel_rfl) rfl (fun _ => pure_run (v := (.pointer (some ⟨b, 0, none⟩))) rfl) ?_
  refine WX_take 4 rfl (by kernel_rfl) (by kernel_rfl) (by kernel_rfl) rfl (v := (.pointer (some ⟨b, 0, none⟩))) (fun _ => by kernel_rfl) ?_
  refine WX_take 6 rfl (by kernel_rfl) (by kernel_rfl) (by kernel_rfl) rfl (fun _ => pure_run (v := (.int .i64 ((m : Int)))) rfl) ?_
  refine WX_take 8 rfl (by kernel_rfl) (by kernel_rfl) (by kernel_rfl) rfl (fun _ => pure_run (v := (.pointer (some ⟨b, 0, none⟩))) rfl) ?_
  refine WX_take 9 rfl (by kernel_rfl) (by kernel_rfl) (by kernel_rfl) rfl (fun _ => pure_run (v := (.pointer (some ⟨b, 0, none⟩))) rfl) ?_
  refine WX_take 10 rfl (by kernel_rfl) (by kernel_rfl) (by kernel_rfl) rfl (v := (.pointer (some ⟨b, 0, none⟩))) (fun _ => by kernel_rfl) ?_
  refine WX_take 12 rfl (by kernel_rfl) (by kernel_rfl) (by kernel_rfl) rfl (fun _ => pure_run (v := (.int .i64 ((m : Int)))) rfl) ?_
  refine WX_two 5 11 (by kernel_rfl) rfl rfl ?_ ?_
  ·refine WO_load (a := ⟨b, 0, none⟩) (v := (S ((skipB txt)))) rfl rfl Tryd.underlying9 rfl (cell_of (drew_keep d8 h1_3) rfl) ?_
   refine WO_nil (⟨rfl, ?_⟩)
   refine WX_take 7 rfl (by kernel_rfl) (by kernel_rfl) (by kernel_rfl) rfl (fun _ => R_sshi (l := (skipB txt)) (j := m) rfl rfl Tryd.underlying9 (by first | rfl | omega) (by first | omega | (simp; done) | (simp; omega))) ?_
   refine WX_only 11 (by kernel_rfl) rfl ?_
   refine WO_load (a := ⟨b, 0, none⟩) (v := (S ((skipB txt)))) rfl rfl Tryd.underlying9 rfl (cell_of (drew_keep d8 h1_3) rfl) ?_
   refine WO_nil (⟨rfl, ?_⟩)
   refine WX_take 13 rfl (by kernel_rfl) (by kernel_rfl) (by kernel_rfl) rfl (fun _ => R_sslo (l := (skipB txt)) (i := m) rfl rfl Tryd.underlying9 (by first | rfl | omega) (by first | omega | (simp; done) | (simp; omega))) ?_
   refine WX_take 14 rfl (by kernel_rfl) (by kernel_rfl) (by kernel_rfl) rfl (fun _ => pure_run (v := (.pointer (some ⟨b, 0, none⟩))) rfl) ?_
   refine WX_take 15 rfl (by kernel_rfl) (by kernel_rfl) (by kernel_rfl) rfl (v := (.pointer (some ⟨b, 1, none⟩))) (fun _ => by kernel_rfl) ?_
   refine WX_only 16 (by kernel_rfl) rfl ?_
   have p9 := (drew_keep d8 h1_3)
   refine WO_store (b := b) (o := 1) (v := (S (((skipB txt).take m)))) rfl rfl rfl (fun _ => by kernel_rfl) rfl p9 (by simp) (fun w9 u9 => ?_)
   have e9 : w9.heap[b]? = some (.cells #[(S ((skipB txt))), (S (((skipB txt).take m)))] 69 (0, 0)) := u9.here
   have z9 := u9.size
   refine WO_nil (⟨rfl, ?_⟩)
   refine WX_take 17 rfl (by kernel_rfl) (by kernel_rfl) (by kernel_rfl) rfl (fun _ => pure_run (v := (.pointer (some ⟨b, 0, none⟩))) rfl) ?_
   refine WX_take 18 rfl (by kernel_rfl) (by kernel_rfl) (by kernel_rfl) rfl (v := (.pointer (some ⟨b, 0, none⟩))) (fun _ => by kernel_rfl) ?_
   refine WX_only 19 (by kernel_rfl) rfl ?_
   have p10 := e9
   refine WO_store (b := b) (o := 0) (v := (S (((skipB txt).drop m)))) rfl rfl rfl (fun _ => by kernel_rfl) rfl p10 (by simp) (fun w10 u10 => ?_)
   have e10 : w10.heap[b]? = some (.cells #[(S (((skipB txt).drop m))), (S (((skipB txt).take m)))] 69 (0, 0)) := u10.here
   have z10 := u10.size
   refine WO_nil (⟨rfl, ?_⟩)
   refine WX_done (by kernel_rfl) ?_
   refine body_ret0 (fn := Tryd.f34) (by first | exact .inl rfl | exact .inr rfl) rfl ?_
   have hz : nlen (skipB txt) = m := by omega
   exact ⟨by rw [next_nlen, hz]; exact e10, (grown_upd (grown_upd (grown_drew (World.grownBy.trans (grown_refl w _) h1_4) d8) u9 (by first | (left; omega) | (right; rfl))) u10 (by first | (left; omega) | (right; rfl)))⟩
  ·refine WO_load (a := ⟨b, 0, none⟩) (v := (S ((skipB txt)))) rfl rfl Tryd.underlying9 rfl (cell_of (drew_keep d8 h1_3) rfl) ?_
   refine WO_nil (⟨rfl, ?_⟩)
   refine WX_take 13 rfl (by kernel_rfl) (by kernel_rfl) (by kernel_rfl) rfl (fun _ => R_sslo (l := (skipB txt)) (i := m) rfl rfl Tryd.underlying9 (by first | rfl | omega) (by first | omega | (simp; done) | (simp; omega))) ?_
   refine WX_only 5 (by kernel_rfl) rfl ?_
   refine WO_load (a := ⟨b, 0, none⟩) (v := (S ((skipB txt)))) rfl rfl Tryd.underlying9 rfl (cell_of (drew_keep d8 h1_3) rfl) ?_
   refine WO_nil (⟨rfl, ?_⟩)
   refine WX_take 7 rfl (by kernel_rfl) (by kernel_rfl) (by kernel_rfl) rfl (fun _ => R_sshi (l := (skipB txt)) (j := m) rfl rfl Tryd.underlying9 (by first | rfl | omega) (by first | omega | (simp; done) | (simp; omega))) ?_
   refine WX_take 14 rfl (by kernel_rfl) (by kernel_rfl) (by kernel_rfl) rfl (fun _ => pure_run (v := (.pointer (some ⟨b, 0, none⟩))) rfl) ?_
   refine WX_take 15 rfl (by kernel_rfl) (by kernel_rfl) (by kernel_rfl) rfl (v := (.pointer (some ⟨b, 1, none⟩))) (fun _ => by kernel_rfl) ?_
   refine WX_only 16 (by kernel_rfl) rfl ?_
   have p11 := (drew_keep d8 h1_3)
   refine WO_store (b := b) (o := 1) (v := (S (((skipB txt).take m)))) rfl rfl rfl (fun _ => by kernel_rfl) rfl p11 (by simp) (fun w11 u11 => ?_)
   have e11 : w11.heap[b]? = some (.cells #[(S ((skipB txt))), (S (((skipB txt).take m)))] 69 (0, 0)) := u11.here
   have z11 := u11.size
   refine WO_nil (⟨rfl, ?_⟩)
   refine WX_take 17 rfl (by kernel_rfl) (by kernel_rfl) (by kernel_rfl) rfl (fun _ => pure_run (v := (.pointer (some ⟨b, 0, none⟩))) rfl) ?_
   refine WX_take 18 rfl (by kernel_rfl) (by kernel_rfl) (by kernel_rfl) rfl (v := (.pointer (some ⟨b, 0, none⟩))) (fun _ => by kernel_rfl) ?_
   refine WX_only 19 (by kernel_rfl) rfl ?_
   have p12 := e11
   refine WO_store (b := b) (o := 0) (v := (S (((skipB txt).drop m)))) rfl rfl rfl (fun _ => by kernel_rfl) rfl p12 (by simp) (fun w12 u12 => ?_)
   have e12 : w12.heap[b]? = some (.cells #[(S (((skipB txt).drop m))), (S (((skipB txt).take m)))] 69 (0, 0)) := u12.here
   have z12 := u12.size
   refine WO_nil (⟨rfl, ?_⟩)
   refine WX_done (by kernel_rfl) ?_
   refine body_ret0 (fn := Tryd.f34) (by first | exact .inl rfl | exact .inr rfl) rfl ?_
   have hz : nlen (skipB txt) = m := by omega
   exact ⟨by rw [next_nlen, hz]; exact e12, (grown_upd (grown_upd (grown_drew (World.grownBy.trans (grown_refl w _) h1_4) d8) u11 (by first | (left; omega) | (right; rfl))) u12 (by first | (left; omega) | (right; rfl)))⟩
set_option maxHeartbeats 400000 in
set_option maxRecDepth 100000 in
theorem take_any (b : Nat) (txt wd : List UInt8) (w : World) (hb : w.heap[b]? = some (.cells #[S (txt), S (wd)] 69 (0, 0))) (hl : txt.length ≤ 8388608) :
  Calls Tryd.prog 48 #[(.pointer (some ⟨b, 0, none⟩))] w (Ret fun v w' => v = S wd ∧ w'.heap[b]? = some (.cells #[S ((nextW txt).2), S ((nextW txt).1)] 69 (0, 0)) ∧ w.grownBy w' (some b)) := by
 refine calls_W Tryd.func48 rfl Tryd.ntmps48 ?_
 refine W_seq ?_
 refine W_reg ?_
 refine WO_pure (v := (S [])) rfl rfl ?_
 refine WO_nil ?_
 refine W_seq ?_
 refine W_reg ?_
 refine WO_pure (v := (.pointer (some ⟨b, 0, none⟩))) rfl rfl ?_
 refine WO_pure (v := (.pointer (some ⟨b, 0, none⟩))) rfl rfl ?_
 refine WO_same (v := (.pointer (some ⟨b, 1, none⟩))) rfl (by kernel_rfl) ?_
 refine WO_load (a := ⟨b, 1, none⟩) (v := (S wd)) rfl rfl Tryd.underlying9 rfl (cell_of hb rfl) ?_
 refine WO_pure (v := (S wd)) rfl rfl ?_
 refine WO_nil ?_
 refine W_seq ?_
 refine W_reg ?_
 refine WO_pure (v := (.pointer (some ⟨b, 0, none⟩))) rfl rfl ?_
 refine WO_call rfl (by exact en_34) (next_any b txt wd _ hb hl) ?_
 rintro _ wn ⟨hcn, gn⟩
 refine WO_nil ?_
 refine W_seq ?_
 refine W_reg ?_
 refine WO_pure (v := (S wd)) rfl rfl ?_
 refine WO_pure (v := (S wd)) rfl rfl ?_
 refine WO_nil ?_
 refine W_ret ?_
 refine body_ret1 rfl (v0 := (S wd)) rfl ?_
 exact ⟨rfl, hcn, gn⟩
end Go.Proofs.YthhacfehjgfpbaaDoor
end
section
namespace Go.Proofs.YthhacfehjgfpbaaDoor
open Go Go.RowKit
def atW (ws : List (List UInt8)) (n : Nat) : List UInt8 := (ws[n]?).getD []
theorem atW_lt {ws : List (List UInt8)} {n : Nat} (h : n < ws.length) : atW ws n = nth ws n := by
  unfold atW; rw [nth_eq h]; rfl
theorem atW_ge {ws : List (List UInt8)} {n : Nat} (h : ws.length ≤ n) : atW ws n = [] := by
  unfold atW; rw [List.getElem?_eq_none h]; rfl
theorem atW_some {ws : List (List UInt8)} {n : Nat} (h : atW ws n ≠ []) : n < ws.length := by
  by_cases hn : n < ws.length
  · exact hn
  · exact absurd (atW_ge (by omega)) h
def kindW (s : List UInt8) : Int := if s = [97, 110, 100] then 2 else if s = [111, 114] then 3 else if s = [105, 102] then 4 else if s = [119, 105, 116, 104] then 5 else if s = [119, 105, 116, 104, 111, 117, 116] then 6 else 0
def argsF (rd : Nat → Option (DepT × Nat)) (ws : List (List UInt8)) (kw : List UInt8) : Nat → List DepT → Nat → Option (List DepT × Nat)
  | 0, _, _ => none
  | g + 1, args, n => if atW ws n = kw then (if (kindW kw = 4 ∨ kindW kw = 6) ∧ 1 < args.length then none else match rd (n + 1) with
      | none => none
      | some (x, m) => argsF rd ws kw g (args ++ [x]) m) else some (args, n)
def elseF (rd : Nat → Option (DepT × Nat)) (ws : List (List UInt8)) (kw : List UInt8) (args : List DepT) (n : Nat) : Option (List DepT × Nat) :=
  if kindW kw = 4 ∧ atW ws n = [101, 108, 115, 101] then (match rd (n + 1) with
    | none => none
    | some (x, m) => some (args ++ [x], m)) else some (args, n)
def endF (ws : List (List UInt8)) (kw : List UInt8) : Option (List DepT × Nat) → Option (DepT × Nat)
  | none => none
  | some (args, n) => if atW ws n = [41] then some (.mk (kindW kw) [] 0 [] args, n + 1) else none
def restF (rd : Nat → Option (DepT × Nat)) (ws : List (List UInt8)) : Option (DepT × Nat) → Option (DepT × Nat)
  | none => none
  | some (first, n) => if kindW (atW ws n) = 0 then none else match argsF rd ws (atW ws n) (ws.length + 1) [first] n with
    | none => none
    | some (args, m) => endF ws (atW ws n) (elseF rd ws (atW ws n) args m)
def nameF (ws : List (List UInt8)) (n : Nat) : Option (DepT × Nat) := if nameB (atW ws n) = false then none else
  if signN (atW ws (n + 1)) = 0 then some (.mk 1 (atW ws n) 0 [] [], n + 1) else some (.mk 1 (atW ws n) (signN (atW ws (n + 1))) (atW ws (n + 2)) [], n + 3)
def readF (ws : List (List UInt8)) : Nat → Nat → Option (DepT × Nat)
  | 0, n => if atW ws n = [40] then none else nameF ws n
  | d + 1, n => if atW ws n = [40] then restF (readF ws d) ws (readF ws d (n + 1)) else nameF ws n
theorem readF_zero (ws : List (List UInt8)) (n : Nat) : readF ws 0 n = if atW ws n = [40] then none else nameF ws n := rfl
theorem readF_succ (ws : List (List UInt8)) (d n : Nat) : readF ws (d + 1) n = if atW ws n = [40] then restF (readF ws d) ws (readF ws d (n + 1)) else nameF ws n := rfl
def wsum (ws : List (List UInt8)) : Nat → Nat → Nat
  | _, 0 => 0
  | n, k + 1 => wsum ws n k + ((atW ws (n + k)).length + 1)
theorem wsum_add (ws : List (List UInt8)) (n : Nat) : ∀ (k j : Nat), wsum ws n (k + j) = wsum ws n k + wsum ws (n + k) j
  | k, 0 => rfl
  | k, j + 1 => by
    show wsum ws n (k + j) + ((atW ws (n + (k + j))).length + 1) = _
    rw [wsum_add ws n k j]
    show _ = wsum ws n k + (wsum ws (n + k) j + ((atW ws (n + k + j)).length + 1))
    rw [show n + (k + j) = n + k + j by omega]; omega
theorem argsSize_snoc (l : List DepT) (x : DepT) : argsSize (l ++ [x]) = argsSize l + x.size := by
  induction l with
  | nil => simp [argsSize]
  | cons a r ih => simp only [List.cons_append, argsSize, ih]; omega
def Fits (ws : List (List UInt8)) (rd : Nat → Option (DepT × Nat)) : Prop := ∀ n t m, rd n = some (t, m) → n < m ∧ t.size ≤ wsum ws n (m - n)
theorem nameF_fits (ws : List (List UInt8)) : Fits ws (nameF ws) := by
  intro n t m h
  unfold nameF at h
  split at h
  · cases h
  · split at h
    · cases h
      refine ⟨by omega, ?_⟩
      rw [show n + 1 - n = 1 by omega]
      show (DepT.mk 1 (atW ws n) 0 [] []).size ≤ 0 + ((atW ws (n + 0)).length + 1)
      unfold DepT.size argsSize; simp; omega
    · cases h
      refine ⟨by omega, ?_⟩
      rw [show n + 3 - n = 3 by omega]
      show (DepT.mk 1 (atW ws n) _ (atW ws (n + 2)) []).size ≤ 0 + ((atW ws (n + 0)).length + 1) + ((atW ws (n + 1)).length + 1) + ((atW ws (n + 2)).length + 1)
      unfold DepT.size argsSize; simp; omega
theorem argsF_fits {ws : List (List UInt8)} {rd : Nat → Option (DepT × Nat)} (hr : Fits ws rd) (kw : List UInt8) (s : Nat) : ∀ (g : Nat) (args : List DepT) (n : Nat) (r : List DepT) (m : Nat), argsF rd ws kw g args n = some (r, m) → s ≤ n → argsSize args ≤ wsum ws s (n - s) → n ≤ m ∧ argsSize r ≤ wsum ws s (m - s)
  | 0, _, _, _, _, h, _, _ => by cases h
  | g + 1, args, n, r, m, h, hs, hz => by
    unfold argsF at h
    split at h
    · split at h
      · cases h
      · split at h
        · cases h
        · rename_i x k hx
          obtain ⟨h1, h2⟩ := hr _ _ _ hx
          have := argsF_fits hr kw s g _ _ _ _ h (by omega) (by
            rw [argsSize_snoc, show k - s = (n - s) + 1 + (k - (n + 1)) by omega, wsum_add, wsum_add]
            rw [show s + (n - s + 1) = n + 1 by omega]; omega)
          exact ⟨by omega, this.2⟩
    · cases h; exact ⟨Nat.le_refl _, hz⟩
theorem elseF_fits {ws : List (List UInt8)} {rd : Nat → Option (DepT × Nat)} (hr : Fits ws rd) {kw : List UInt8} {s : Nat} {args : List DepT} {n : Nat} {r : List DepT} {m : Nat} (h : elseF rd ws kw args n = some (r, m)) (hs : s ≤ n) (hz : argsSize args ≤ wsum ws s (n - s)) : n ≤ m ∧ argsSize r ≤ wsum ws s (m - s) := by
  unfold elseF at h
  split at h
  · split at h
    · cases h
    · rename_i x k hx
      cases h
      obtain ⟨h1, h2⟩ := hr _ _ _ hx
      refine ⟨by omega, ?_⟩
      rw [argsSize_snoc, show m - s = (n - s) + 1 + (m - (n + 1)) by omega, wsum_add, wsum_add, show s + (n - s + 1) = n + 1 by omega]; omega
  · cases h; exact ⟨Nat.le_refl _, hz⟩
theorem restF_some {ws : List (List UInt8)} {rd : Nat → Option (DepT × Nat)} {o : Option (DepT × Nat)} {t : DepT} {m : Nat} (h : restF rd ws o = some (t, m)) :
    ∃ first n args k args' k', o = some (first, n) ∧ kindW (atW ws n) ≠ 0 ∧ argsF rd ws (atW ws n) (ws.length + 1) [first] n = some (args, k) ∧ elseF rd ws (atW ws n) args k = some (args', k') ∧ atW ws k' = [41] ∧ t = .mk (kindW (atW ws n)) [] 0 [] args' ∧ m = k' + 1 := by
  unfold restF at h
  split at h
  · cases h
  · rename_i first n
    split at h
    · cases h
    · rename_i hk
      split at h
      · cases h
      · rename_i args k ha
        unfold endF at h
        split at h
        · cases h
        · rename_i args' k' he
          split at h
          · rename_i hw
            cases h
            exact ⟨first, n, args, k, args', k', rfl, hk, ha, he, hw, rfl, rfl⟩
          · cases h
theorem readF_fits (ws : List (List UInt8)) : ∀ d, Fits ws (readF ws d)
  | 0, n, t, m, h => by
    rw [readF_zero] at h
    split at h
    · cases h
    · exact nameF_fits ws n t m h
  | d + 1, n, t, m, h => by
    rw [readF_succ] at h
    split at h
    · obtain ⟨first, n1, args, k, args', k', h1, _, h2, h3, _, rfl, rfl⟩ := restF_some h
      obtain ⟨a1, a2⟩ := readF_fits ws d _ _ _ h1
      obtain ⟨b1, b2⟩ := argsF_fits (readF_fits ws d) _ (n + 1) _ _ _ _ _ h2 (by omega) (by unfold argsSize argsSize; omega)
      obtain ⟨c1, c2⟩ := elseF_fits (readF_fits ws d) h3 (by omega) b2
      refine ⟨by omega, ?_⟩
      rw [show k' + 1 - n = 1 + (k' - (n + 1)) + 1 by omega, wsum_add, wsum_add]
      have e1 : ∀ j, wsum ws j 1 = (atW ws j).length + 1 := by intro j; simp [wsum]
      have e2 : (DepT.mk (kindW (atW ws n1)) [] 0 [] args').size = 1 + argsSize args' := by unfold DepT.size; simp; omega
      rw [e1, e2, e1]
      omega
    · exact nameF_fits ws n t m h
theorem readF_over {ws : List (List UInt8)} {d n : Nat} {t : DepT} {m : Nat} (h : readF ws d n = some (t, m)) (hm : ws.length < m) : formB t = false := by
  have key : nameF ws n = some (t, m) → formB t = false := by
    intro h
    unfold nameF at h
    split at h
    · cases h
    · rename_i hn
      split at h
      · cases h
        have : atW ws n = [] := atW_ge (by omega)
        rw [this] at hn
        exact absurd (by decide : nameB [] = false) hn
      · rename_i hs
        cases h
        have he : atW ws (n + 2) = [] := atW_ge (by omega)
        rw [he]
        unfold formB
        rw [if_pos rfl]
        unfold formName
        rw [if_neg hs, show decide (evrE [] = 0) = false by decide]
        simp
  cases d with
  | zero =>
    rw [readF_zero] at h
    split at h
    · cases h
    · exact key h
  | succ d =>
    rw [readF_succ] at h
    split at h
    · obtain ⟨first, n1, args, k, args', k', _, _, _, _, hw, _, rfl⟩ := restF_some h
      have := atW_some (ws := ws) (n := k') (by rw [hw]; simp)
      omega
    · exact key h
theorem argsF_congr {ws : List (List UInt8)} {rd rd' : Nat → Option (DepT × Nat)} {s : Nat} (h : ∀ n, s ≤ n → rd n = rd' n) (hf : Fits ws rd) (kw : List UInt8) : ∀ (g : Nat) (args : List DepT) (n : Nat), s ≤ n → argsF rd ws kw g args n = argsF rd' ws kw g args n
  | 0, _, _, _ => rfl
  | g + 1, args, n, hn => by
    unfold argsF
    rw [← h (n + 1) (by omega)]
    cases hx : rd (n + 1) with
    | none => rfl
    | some p =>
      obtain ⟨x, m⟩ := p
      have := (hf _ _ _ hx).1
      simp only
      rw [argsF_congr h hf kw g _ m (by omega)]
theorem argsF_le {ws : List (List UInt8)} {rd : Nat → Option (DepT × Nat)} (hf : Fits ws rd) (kw : List UInt8) : ∀ (g : Nat) (args : List DepT) (n : Nat) (r : List DepT) (m : Nat), argsF rd ws kw g args n = some (r, m) → n ≤ m
  | 0, _, _, _, _, h => by cases h
  | g + 1, args, n, r, m, h => by
    unfold argsF at h
    split at h
    · split at h
      · cases h
      · split at h
        · cases h
        · rename_i x k hx
          have := (hf _ _ _ hx).1
          have := argsF_le hf kw g _ _ _ _ h
          omega
    · cases h; exact Nat.le_refl _
theorem restF_congr {ws : List (List UInt8)} {rd rd' : Nat → Option (DepT × Nat)} {s : Nat} (h : ∀ n, s ≤ n → rd n = rd' n) (hf : Fits ws rd) : restF rd ws (rd s) = restF rd' ws (rd' s) := by
  rw [← h s (Nat.le_refl _)]
  cases hx : rd s with
  | none => rfl
  | some p =>
    obtain ⟨first, n⟩ := p
    have h1 := (hf _ _ _ hx).1
    unfold restF
    simp only
    rw [argsF_congr h hf _ _ _ _ (by omega)]
    split
    · rfl
    · cases ha : argsF rd' ws (atW ws n) (ws.length + 1) [first] n with
      | none => rfl
      | some q =>
        obtain ⟨args, k⟩ := q
        simp only
        have hk : n ≤ k := by
          rw [← argsF_congr h hf _ _ _ _ (by omega)] at ha
          exact argsF_le hf _ _ _ _ _ _ ha
        congr 1
        unfold elseF
        rw [h (k + 1) (by omega)]
theorem readF_deep (ws : List (List UInt8)) : ∀ (d d' n : Nat), ws.length ≤ n + d → ws.length ≤ n + d' → readF ws d n = readF ws d' n
  | 0, 0, _, _, _ => rfl
  | 0, d' + 1, n, h, _ => by
    have e : atW ws n = [] := atW_ge (by omega)
    rw [readF_zero, readF_succ, e]; rfl
  | d + 1, 0, n, _, h => by
    have e : atW ws n = [] := atW_ge (by omega)
    rw [readF_zero, readF_succ, e]; rfl
  | d + 1, d' + 1, n, h, h' => by
    rw [readF_succ, readF_succ]
    split
    · exact restF_congr (s := n + 1) (fun k hk => readF_deep ws d d' k (by omega) (by omega)) (readF_fits ws d)
    · rfl
end Go.Proofs.YthhacfehjgfpbaaDoor
end
section
namespace Go.Proofs.YthhacfehjgfpbaaDoor
open Go Go.RowKit
def RowX (p : Nat → Prop) (w : World) (v : Value) (n sz : Nat) (xs : List Value) : Prop :=
  RowIs w v n sz xs ∧ (∀ k, v.ownBlock = some k → k < w.heap.size ∧ p k) ∧ ∀ a n c, v = .slice a n c → n ≤ c ∧ (a = none → c = 0)
theorem RowX.go {p q : Nat → Prop} {w w' : World} {v : Value} {n sz : Nat} {xs : List Value} (h : RowX p w v n sz xs)
    (hb : ∀ k, k < w.heap.size → p k → q k ∧ w'.heap[k]? = w.heap[k]?) (hs : w.heap.size ≤ w'.heap.size) : RowX q w' v n sz xs := by
  obtain ⟨⟨h1, h2⟩, h3, h4⟩ := h
  refine ⟨⟨h1, ?_⟩, fun k hk => ⟨Nat.lt_of_lt_of_le (h3 k hk).1 hs, (hb k (h3 k hk).1 (h3 k hk).2).1⟩, h4⟩
  rcases h2 with h2 | ⟨b, o, c, rfl, hc⟩
  · exact .inl h2
  · refine .inr ⟨b, o, c, rfl, fun j u hu => ?_⟩
    have := h3 b rfl
    rw [World.cell?_of_block (w := w) (a := ⟨b, o + j, none⟩) (hb b this.1 this.2).2]
    exact hc j u hu
theorem owned_cap {w : World} {base : Nat} {e : TypeId} {v : Value} {n sz : Nat} {xs : List Value} (h : w.ownsRow base e sz v n xs) : ∀ a n c, v = .slice a n c → n ≤ c ∧ (a = none → c = 0) := by
  rcases h.2 with ⟨rfl, rfl⟩ | ⟨g, cap, cur, rfl, _, _, hc, _⟩
  · intro a n c e; cases e; exact ⟨Nat.le_refl _, fun _ => rfl⟩
  · intro a n c e; cases e; exact ⟨hc, fun e => (by cases e)⟩
theorem RowX.owned {p : Nat → Prop} {w : World} {base : Nat} {e : TypeId} {v : Value} {n sz : Nat} {xs : List Value} (h : w.ownsRow base e sz v n xs) (hp : ∀ k, v.ownBlock = some k → base ≤ k → p k) : RowX p w v n sz xs :=
  ⟨RowIs.owned h, fun k hk => ⟨(h.lt k hk).2, hp k hk (h.lt k hk).1⟩, owned_cap h⟩
theorem RowX.nil {p : Nat → Prop} {w : World} {sz : Nat} : RowX p w (.slice none 0 0) 0 sz [] := ⟨⟨by simp, .inl ⟨rfl, _, _, rfl⟩⟩, fun k hk => (by cases hk), fun a n c e => (by cases e; exact ⟨Nat.le_refl _, fun _ => rfl⟩)⟩
theorem oneCell_owned {w : World} {base : Nat} {e : TypeId} {v : Value} {n sz : Nat} {xs : List Value} (h : w.ownsRow base e sz v n xs) : v.oneCell' = true := oneCell_is (RowIs.owned h)
mutual
def DepX (p : Nat → Prop) (w : World) : DepT → List Value → Prop
  | .mk k nm op ev args, cs => ∃ (sv : Value) (css : List (List Value)), cs = [.int .i64 k, S nm, .int .i64 op, S ev, sv] ∧ RowX p w sv args.length 5 css.flatten ∧ ArgsX p w args css
def ArgsX (p : Nat → Prop) (w : World) : List DepT → List (List Value) → Prop
  | [], css => css = []
  | d :: r, css => ∃ (c : List Value) (cr : List (List Value)), css = c :: cr ∧ DepX p w d c ∧ ArgsX p w r cr
end
section
variable {p q : Nat → Prop} {w w' : World}
mutual
theorem DepX.go (hb : ∀ k, k < w.heap.size → p k → q k ∧ w'.heap[k]? = w.heap[k]?) (hs : w.heap.size ≤ w'.heap.size) : ∀ (d : DepT) (cs : List Value), DepX p w d cs → DepX q w' d cs
  | .mk k nm op ev args, cs, h => by
    unfold DepX at h ⊢
    obtain ⟨sv, css, h1, h2, h3⟩ := h
    exact ⟨sv, css, h1, h2.go hb hs, ArgsX.go hb hs args css h3⟩
theorem ArgsX.go (hb : ∀ k, k < w.heap.size → p k → q k ∧ w'.heap[k]? = w.heap[k]?) (hs : w.heap.size ≤ w'.heap.size) : ∀ (l : List DepT) (css : List (List Value)), ArgsX p w l css → ArgsX q w' l css
  | [], css, h => by unfold ArgsX at h ⊢; exact h
  | d :: r, css, h => by
    unfold ArgsX at h ⊢
    obtain ⟨c, cr, h1, h2, h3⟩ := h
    exact ⟨c, cr, h1, DepX.go hb hs d c h2, ArgsX.go hb hs r cr h3⟩
end
mutual
theorem DepX.toC : ∀ (d : DepT) (cs : List Value), DepX p w d cs → DepC w d cs
  | .mk k nm op ev args, cs, h => by
    unfold DepX at h; unfold DepC
    obtain ⟨sv, css, h1, h2, h3⟩ := h
    exact ⟨sv, css, h1, h2.1, ArgsX.toC args css h3⟩
theorem ArgsX.toC : ∀ (l : List DepT) (css : List (List Value)), ArgsX p w l css → ArgsC w l css
  | [], css, h => by unfold ArgsX at h; unfold ArgsC; exact h
  | d :: r, css, h => by
    unfold ArgsX at h; unfold ArgsC
    obtain ⟨c, cr, h1, h2, h3⟩ := h
    exact ⟨c, cr, h1, DepX.toC d c h2, ArgsX.toC r cr h3⟩
end
theorem DepX.ext (h : Below w.heap.size w w') (d : DepT) (cs : List Value) (k : DepX p w d cs) : DepX p w' d cs := DepX.go (fun b hb hp => ⟨hp, h.block b hb⟩) h.size d cs k
theorem ArgsX.nil : ArgsX p w [] [] := by unfold ArgsX; rfl
theorem ArgsX.one {d : DepT} {c : List Value} (h : DepX p w d c) : ArgsX p w [d] [c] := by
  unfold ArgsX; exact ⟨c, [], rfl, h, ArgsX.nil⟩
theorem ArgsX.snoc {d : DepT} {c : List Value} (h : DepX p w d c) : ∀ {l : List DepT} {css : List (List Value)}, ArgsX p w l css → ArgsX p w (l ++ [d]) (css ++ [c])
  | [], css, h0 => by unfold ArgsX at h0; subst h0; exact ArgsX.one h
  | a :: r, css, h0 => by
    unfold ArgsX at h0
    obtain ⟨x, cr, rfl, h2, h3⟩ := h0
    show ArgsX p w (a :: (r ++ [d])) (x :: (cr ++ [c]))
    unfold ArgsX
    exact ⟨x, _, rfl, h2, ArgsX.snoc h h3⟩
theorem DepX.intro {k op : Int} {nm ev : List UInt8} {args : List DepT} {sv : Value} {css : List (List Value)} (h1 : RowX p w sv args.length 5 css.flatten) (h2 : ArgsX p w args css) : DepX p w (.mk k nm op ev args) [.int .i64 k, S nm, .int .i64 op, S ev, sv] := by
  unfold DepX; exact ⟨sv, css, rfl, h1, h2⟩
theorem DepX.leaf {k op : Int} {nm ev : List UInt8} : DepX p w (.mk k nm op ev []) [.int .i64 k, S nm, .int .i64 op, S ev, .slice none 0 0] := DepX.intro (css := []) RowX.nil ArgsX.nil
end
abbrev zeroD : Value := .agg #[.int .i64 0, S [], .int .i64 0, S [], .slice none 0 0]
theorem nameB_nil : nameB [] = false := by decide
theorem readF_le {ws : List (List UInt8)} {d n : Nat} {t : DepT} {m : Nat} (h : readF ws d n = some (t, m)) : m ≤ ws.length + 2 := by
  have key : nameF ws n = some (t, m) → m ≤ ws.length + 2 := by
    intro h
    unfold nameF at h
    split at h
    · cases h
    · rename_i hn
      have : n < ws.length := atW_some (fun e => hn (by rw [e]; exact nameB_nil))
      split at h <;> cases h <;> omega
  cases d with
  | zero => rw [readF_zero] at h; split at h; · cases h
            · exact key h
  | succ d =>
    rw [readF_succ] at h
    split at h
    · obtain ⟨first, n1, args, k, args', k', _, _, _, _, hw, _, rfl⟩ := restF_some h
      have := atW_some (ws := ws) (n := k') (by rw [hw]; simp)
      omega
    · exact key h
theorem readF_gt {ws : List (List UInt8)} {d n : Nat} {t : DepT} {m : Nat} (h : readF ws d n = some (t, m)) : n < m := (readF_fits ws d n t m h).1
theorem readF_pos {ws : List (List UInt8)} {d n : Nat} (h : 0 < d) (hw : atW ws n = [40]) : readF ws d n = restF (readF ws (d - 1)) ws (readF ws (d - 1) (n + 1)) := by
  obtain ⟨d, rfl⟩ : ∃ e, d = e + 1 := ⟨d - 1, by omega⟩
  rw [readF_succ, if_pos hw]; rfl
theorem readF_name {ws : List (List UInt8)} {d n : Nat} (hw : atW ws n ≠ [40]) : readF ws d n = nameF ws n := by
  cases d with
  | zero => rw [readF_zero, if_neg hw]
  | succ d => rw [readF_succ, if_neg hw]
def readA (ws : List (List UInt8)) (n : Nat) : Option (DepT × Nat) := readF ws ws.length n
theorem readA_name {ws : List (List UInt8)} {n : Nat} (hw : atW ws n ≠ [40]) : readA ws n = nameF ws n := readF_name hw
theorem readA_step {ws : List (List UInt8)} {n : Nat} (hw : atW ws n = [40]) : readA ws n = restF (readA ws) ws (readA ws (n + 1)) := by
  have hn : n < ws.length := atW_some (by rw [hw]; simp)
  unfold readA
  rw [readF_pos (by omega) hw]
  exact restF_congr (s := n + 1) (fun k hk => readF_deep ws _ _ k (by omega) (by omega)) (readF_fits ws _)
section
variable {rd : Nat → Option (DepT × Nat)} {ws : List (List UInt8)} {first : DepT} {n m : Nat} {args : List DepT} {kw : List UInt8} {g : Nat}
theorem restF_none : restF rd ws none = none := rfl
theorem restF_kind (h : kindW (atW ws n) = 0) : restF rd ws (some (first, n)) = none := by unfold restF; simp only; rw [if_pos h]
theorem restF_bad (h : kindW (atW ws n) ≠ 0) (ha : argsF rd ws (atW ws n) (ws.length + 1) [first] n = none) : restF rd ws (some (first, n)) = none := by unfold restF; simp only; rw [if_neg h, ha]
theorem restF_end (h : kindW (atW ws n) ≠ 0) (ha : argsF rd ws (atW ws n) (ws.length + 1) [first] n = some (args, m)) : restF rd ws (some (first, n)) = endF ws (atW ws n) (elseF rd ws (atW ws n) args m) := by unfold restF; simp only; rw [if_neg h, ha]
theorem argsF_stop (hg : 0 < g) (h : atW ws n ≠ kw) : argsF rd ws kw g args n = some (args, n) := by
  obtain ⟨g, rfl⟩ : ∃ e, g = e + 1 := ⟨g - 1, by omega⟩
  unfold argsF; rw [if_neg h]
theorem argsF_much (h : atW ws n = kw) (hk : (kindW kw = 4 ∨ kindW kw = 6) ∧ 1 < args.length) : argsF rd ws kw g args n = none := by
  cases g with
  | zero => rfl
  | succ g => unfold argsF; rw [if_pos h, if_pos hk]
theorem argsF_fail (h : atW ws n = kw) (hx : rd (n + 1) = none) : argsF rd ws kw g args n = none := by
  cases g with
  | zero => rfl
  | succ g => unfold argsF; rw [if_pos h, hx]; simp
theorem argsF_more {x : DepT} (hg : 0 < g) (h : atW ws n = kw) (hk : ¬ ((kindW kw = 4 ∨ kindW kw = 6) ∧ 1 < args.length)) (hx : rd (n + 1) = some (x, m)) : argsF rd ws kw g args n = argsF rd ws kw (g - 1) (args ++ [x]) m := by
  obtain ⟨g, rfl⟩ : ∃ e, g = e + 1 := ⟨g - 1, by omega⟩
  conv => lhs; unfold argsF
  rw [if_pos h, if_neg hk, hx]; rfl
theorem elseF_no (h : ¬ (kindW kw = 4 ∧ atW ws n = [101, 108, 115, 101])) : elseF rd ws kw args n = some (args, n) := by unfold elseF; rw [if_neg h]
theorem elseF_fail (h : kindW kw = 4 ∧ atW ws n = [101, 108, 115, 101]) (hx : rd (n + 1) = none) : elseF rd ws kw args n = none := by unfold elseF; rw [if_pos h, hx]
theorem elseF_more {x : DepT} (h : kindW kw = 4 ∧ atW ws n = [101, 108, 115, 101]) (hx : rd (n + 1) = some (x, m)) : elseF rd ws kw args n = some (args ++ [x], m) := by unfold elseF; rw [if_pos h, hx]
theorem endF_yes (h : atW ws n = [41]) : endF ws kw (some (args, n)) = some (.mk (kindW kw) [] 0 [] args, n + 1) := by unfold endF; simp only; rw [if_pos h]
theorem endF_no (h : atW ws n ≠ [41]) : endF ws kw (some (args, n)) = none := by unfold endF; simp only; rw [if_neg h]
theorem endF_none : endF ws kw none = none := rfl
theorem kindW_if : kindW kw = 4 ↔ kw = [105, 102] := by
  constructor
  · intro h; unfold kindW at h
    split at h; · cases h
    split at h; · cases h
    split at h; · assumption
    split at h; · cases h
    split at h <;> cases h
  · rintro rfl; rfl
theorem kindW_without : kindW kw = 6 ↔ kw = [119, 105, 116, 104, 111, 117, 116] := by
  constructor
  · intro h; unfold kindW at h
    split at h; · cases h
    split at h; · cases h
    split at h; · cases h
    split at h; · cases h
    split at h; · assumption
    cases h
  · rintro rfl; rfl
theorem kindW_lt (h : kindW (atW ws n) ≠ 0) : n < ws.length := atW_some (fun e => h (by rw [e]; rfl))
end
end Go.Proofs.YthhacfehjgfpbaaDoor
end
section
namespace Go.Proofs.YthhacfehjgfpbaaDoor
open Go Go.RowKit
theorem atW_len {ws : List (List UInt8)} (h : ∀ x ∈ ws, x.length ≤ 8388608) (n : Nat) : (atW ws n).length ≤ 8388608 := by
 by_cases hn : n < ws.length
 ·rw [atW_lt hn]; exact h _ (nth_mem hn)
 ·rw [atW_ge (by omega)]; simp
end Go.Proofs.YthhacfehjgfpbaaDoor
end
section
namespace Go.Proofs.YthhacfehjgfpbaaDoor
open Go Go.RowKit
def sumW : List (List UInt8) → Nat
 | [] => 0
 | a :: r => a.length + 1 + sumW r
theorem nextW_len (s : List UInt8) : (nextW s).1.length + (nextW s).2.length ≤ s.length := by
 have h := skipB_le s
 rw [next_nlen]
 simp only [List.length_take, List.length_drop]
 omega
theorem wordsN_len : ∀ (n : Nat) (s : List UInt8), (wordsN n s).length ≤ s.length ∧ sumW (wordsN n s) ≤ 2 * s.length ∧ ∀ x ∈ wordsN n s, x.length ≤ s.length
 | 0, s => by simp [wordsN, sumW]
 | n + 1, s => by
  unfold wordsN
  split
  ·simp [sumW]
  ·rename_i h
   have h1 := nextW_len s
   have h2 : 1 ≤ (nextW s).1.length := by cases hh : (nextW s).1 with
    | nil => exact absurd hh h
    | cons a r => simp
   obtain ⟨i1, i2, i3⟩ := wordsN_len n (nextW s).2
   refine ⟨by simp only [List.length_cons]; omega, by unfold sumW; omega, fun x hx => ?_⟩
   rcases List.mem_cons.1 hx with rfl | hx
   ·omega
   ·have := i3 x hx; omega
theorem wordsOf_len (s : List UInt8) : (wordsOf s).length ≤ s.length := (wordsN_len _ s).1
theorem wordsOf_sum (s : List UInt8) : sumW (wordsOf s) ≤ 2 * s.length := (wordsN_len _ s).2.1
theorem wordsOf_each (s : List UInt8) : ∀ x ∈ wordsOf s, x.length ≤ s.length := (wordsN_len _ s).2.2
theorem wsum_cons (a : List UInt8) (r : List (List UInt8)) (n : Nat) : ∀ k, wsum (a :: r) (n + 1) k = wsum r n k
 | 0 => rfl
 | k + 1 => by
  show wsum (a :: r) (n + 1) k + _ = wsum r n k + _
  rw [wsum_cons a r n k, show n + 1 + k = (n + k) + 1 by omega]
  rfl
theorem wsum_le : ∀ (ws : List (List UInt8)) (k : Nat), wsum ws 0 k ≤ sumW ws + k
 | _, 0 => Nat.zero_le _
 | [], k + 1 => by
  have := wsum_le [] k
  have e : (atW [] (0 + k)).length = 0 := by rw [atW_ge (Nat.zero_le _)]; rfl
  show wsum [] 0 k + ((atW [] (0 + k)).length + 1) ≤ sumW [] + (k + 1)
  omega
 | a :: r, k + 1 => by
  rw [show k + 1 = 1 + k by omega, wsum_add, wsum_cons]
  have := wsum_le r k
  have e : wsum (a :: r) 0 1 = a.length + 1 := by show 0 + ((atW (a :: r) (0 + 0)).length + 1) = _; rw [Nat.zero_add]; rfl
  rw [e]; unfold sumW; omega
theorem read_size {s : List UInt8} {t : DepT} {m d : Nat} (h : readF (wordsOf s) d 0 = some (t, m)) (hl : s.length ≤ 1048576) : t.size ≤ 4194304 := by
 have h1 := (readF_fits (wordsOf s) d 0 t m h).2
 have h2 := readF_le h
 have h3 := wsum_le (wordsOf s) (m - 0)
 have h4 := wordsOf_sum s
 have h5 := wordsOf_len s
 omega
abbrev zeroT : DepT := .mk 0 [] 0 [] []
def parseF (s : List UInt8) : DepT × Int := match readA (wordsOf s) 0 with
 | none => (zeroT, 50)
 | some (t, m) => if m = (wordsOf s).length then (if checkE t = 0 then (t, 0) else (zeroT, checkE t)) else (zeroT, 50)
def ParseIs (b : Nat) (w' : World) (r : DepT × Int) (v : Value) : Prop := ∃ cs : List Value, v = .tuple #[.agg cs.toArray, .int .i64 r.2] ∧ DepX (fun k => b ≤ k) w' r.1 cs
theorem parseIs_zero {b : Nat} {w' : World} {r : DepT × Int} {e : Int} (h : r = (zeroT, e)) : ParseIs b w' r (.tuple #[zeroD, .int .i64 e]) := by
 subst h; exact ⟨_, rfl, DepX.leaf⟩
end Go.Proofs.YthhacfehjgfpbaaDoor
end
section
namespace Go.Proofs.YthhacfehjgfpbaaDoor
open Go Go.RowKit
def Pan (ch : List PanicEntry) (T : Value → World → Prop) (U : World → Prop) (e : Ending) (w : World) : Prop := (∃ v, e = .returned v ∧ T v w) ∨ (e = .panicked ch ∧ U w)
theorem Pan.pan {ch : List PanicEntry} {T : Value → World → Prop} {U : World → Prop} {w : World} (h : U w) : Pan ch T U (.panicked ch) w := .inr ⟨rfl, h⟩
theorem Pan.ret {ch : List PanicEntry} {T : Value → World → Prop} {U : World → Prop} {v : Value} {w : World} (h : T v w) : Pan ch T U (.returned v) w := .inl ⟨v, rfl, h⟩
section
variable {P : Program} {n : Nat} {Q : Exit → (Nat → Value) → World → Prop} {σ : Nat → Value} {w : World} {ch : List PanicEntry} {U : World → Prop}
theorem WO_callp {ops : Array Oper} {rest : List Oper} {f : FuncId} {ar : Array Operand} {ts : Array TypeId} {ty : TypeId} {ps : String} {dst : Option Tmp} {af : Array Edge} {g : Option (Nat × Bool)} {T : Value → World → Prop}
    (hg : gOk ops n σ g = true) (he : Enters P f) (hc : Calls P f (ar.toList.map (ev n σ)).toArray w (Pan ch T U))
    (pan : ∀ w', U w' → Q (.panic ch) σ w')
    (next : ∀ v w', T v w' → WO P n ops rest Q (updo σ dst v) w') :
    WO P n ops (⟨dst, .call { callee := .value (.func f), args := ar, argTypes := ts }, ty, ps, af, g⟩ :: rest) Q σ w := by
  refine WO_enter (R := Pan ch T U) (w' := w) (f := f) (args := (ar.toList.map (ev n σ)).toArray) hg ?_ hc ?_ ?_ ?_
  · have : ar.map (ev n σ) = (ar.toList.map (ev n σ)).toArray := by
      apply Array.ext'; simp
    simp only [execOp, resolve, ev, this]
    have := he (List.map (ev n σ) ar.toList).toArray w
    simp [Deferred.ofValue, invoke, go_sem, this]
  · rintro v w'' (⟨v', hv, hT⟩ | ⟨hv, _⟩)
    · cases hv; exact next v w'' hT
    · cases hv
  · rintro ch' w'' (⟨v', hv, hT⟩ | ⟨hv, hU⟩)
    · cases hv
    · cases hv; exact pan w'' hU
  · rintro w'' (⟨v', hv, hT⟩ | ⟨hv, hU⟩) <;> cases hv
theorem body_retp0 {fn : Func} {T : Value → World → Prop} {e : Exit} (he : e = .normal ∨ e = .ret) (hr : fn.results = #[]) (h : T (.tuple #[]) w) : bodyQ P n fn (Pan ch T U) e σ w := by
  rcases he with rfl | rfl <;> exact ⟨_, results_none hr _ _ _, .inl ⟨_, rfl, h⟩⟩
theorem body_retpc1 {fn : Func} {T : Value → World → Prop} {t : Nat} {ty e : TypeId} {d : TypeDesc} {b : Nat} {c : Array Value} {fr : Nat × Nat} (hr : fn.results = #[.cell t ty]) (h0 : sl n σ t = .pointer (some ⟨b, 0, none⟩))
    (ht : P.underlying ty = some d) (hd : plainD d = false) (hs : ∀ w, (sizeOf ty).run P w = .ok c.size w) (hb : w.heap[b]? = some (.cells c e fr))
    (h : T (.agg c) w) : bodyQ P n fn (Pan ch T U) .ret σ w := by
  have ha : (isAgg ty).run P w = .ok true w := by cases d <;> simp_all [isAgg, run_underlying ht, plainD]
  refine ⟨_, ?_, .inl ⟨_, rfl, h⟩⟩
  have hl := run_loadCells_list (P := P) w ⟨b, 0, none⟩ c.toList (fun j v hj => by
    have hadd : (⟨b, 0, none⟩ : Addr).add j = ⟨b, 0 + j, none⟩ := by unfold Addr.add; split <;> simp_all
    rw [hadd, Nat.zero_add]; exact cell_of hb (by simpa using hj))
  simp only [loadCells] at hl
  have hres : (results fn (mk n σ).tmps).run P w = ((asAddr ((mk n σ).tmps.getD t undef)).run P w).andThen fun a w₁ => (loadVar ty a).run P w₁ := by
    simp only [results, hr]
    simp [Sem.run_bind, Result.andThen]
  rw [hres, mk_getD, h0]
  simp only [Array.length_toList] at hl
  simp [asAddr, loadVar, loadCells, ha, hs, hl, go_sem]
end
theorem mk_of_put {n : Nat} {a : Act} {d : Option Tmp} {v : Value} (h : ∃ σ, a.put d v = mk n σ) : ∃ σ, a = mk n σ := by
  obtain ⟨σ, h⟩ := h
  have hs : a.tmps.size = n ∧ a.defers = [] := by
    cases d with
    | none => change a = _ at h; subst h; simp [mk]
    | some d =>
      have h1 := congrArg (fun a : Act => a.tmps.size) h; have h2 := congrArg Act.defers h
      simp [Act.put, mk] at h1 h2
      exact ⟨h1, h2⟩
  refine ⟨fun i => a.tmps.getD i undef, ?_⟩
  cases a with
  | mk tmps defers =>
    obtain ⟨rfl, rfl⟩ := hs
    unfold mk
    congr 1
    apply Array.ext
    · simp
    · intro i h1 h2
      simp only [Array.getElem_ofFn]
      rw [Array.getD_eq_getD_getElem?, Array.getElem?_eq_getElem h1]; rfl
def postZ (n : Nat) (Q : (Nat → Value) → World → Prop) (U : List PanicEntry → World → Prop) : Exit → Act → World → Prop := fun e a w =>
  (e = .normal ∧ ∃ σ, a = mk n σ ∧ Q σ w) ∨ ∃ c, e = .panic c ∧ (∃ σ, a = mk n σ) ∧ U c w
def WZ (P : Program) (n : Nat) (ops : Array Oper) (Q : (Nat → Value) → World → Prop) (U : List PanicEntry → World → Prop) (fuel : Nat) (listed : Array Bool) (σ : Nat → Value) (w : World) : Prop :=
  wpAny P .any ops (postZ n Q U) fuel listed (mk n σ) w
section
variable {P : Program} {n : Nat} {σ : Nat → Value} {w : World}
theorem W_orderZ {Q : Exit → (Nat → Value) → World → Prop} {id : Nat} {l : List Oper} (hm : P.follows .mixedOrders = true)
    (h : ∀ w', Drew w w' → WZ P n l.toArray (Q .normal) (fun c w => ∀ σ, Q (.panic c) σ w) l.length (Array.replicate l.length false) σ w') : W P n (.region id l.toArray true) Q σ w := by
  unfold W
  refine wp_mono (wp_region_any hm (h _ ⟨1, rfl⟩)) ?_
  rintro e a w (⟨rfl, σ', ha, hq⟩ | ⟨c, rfl, ⟨σ', ha⟩, hq⟩)
  · exact ⟨σ', ha, hq⟩
  · exact ⟨σ', ha, hq σ'⟩
variable {ops : Array Oper} {Q : (Nat → Value) → World → Prop} {U : List PanicEntry → World → Prop} {fuel : Nat} {listed : Array Bool}
theorem postZ_put {d : Option Tmp} {v : Value} (c : List PanicEntry) (a : Act) (w : World) (h : postZ n Q U (.panic c) (a.put d v) w) : postZ n Q U (.panic c) a w := by
  rcases h with ⟨h, _⟩ | ⟨c', hc, ha, hu⟩
  · cases h
  · exact .inr ⟨c', hc, mk_of_put ha, hu⟩
theorem WZ_take (i : Nat) {o : Oper} {v : Value} (hi : ops[i]? = some o) (hs : Region.noSelect ops = true) (hf : Region.free .any ops listed i = true) (hr : (Region.ready .any ops listed).contains i = true)
    (hg : gOk ops n σ o.guard = true) (h : ∀ w, (execOp (ev n σ) o).run P w = .ok (.value v) w) (next : WZ P n ops Q U fuel (listed.setIfInBounds i true) (updo σ o.dst v) w) : WZ P n ops Q U (fuel + 1) listed σ w := by
  unfold WZ
  refine wpAny_take hi hs hf hr postZ_put (.inl ⟨by rw [wanted_mk]; exact hg, fun w => by rw [mk_eval]; exact h w⟩) ?_
  rw [mk_put]; exact next
theorem WZ_done (hr : Region.ready .any ops listed = []) (h : Q σ w) : WZ P n ops Q U fuel listed σ w := by
  unfold WZ
  exact wpAny_done hr (.inl ⟨rfl, σ, rfl, h⟩) fuel
theorem wp_twoP {o : Oper} {a : Act} {w : World} {K K' : Act → World → Prop} {R R' : Exit → Act → World → Prop} (h : ∀ a w, K a w → K' a w) (hp : ∀ c a w, R (.panic c) a w → R' (.panic c) a w) (ho : ¬ LetsOut R) (hh : o.wp P a w K R) : o.wp P a w K' R' := by
  unfold Oper.wp at *
  generalize (execOp a.eval o).run P w = r at *
  cases r with
  | ok n w' =>
    cases n <;> simp only [Oper.upon] at hh ⊢ <;>
      first
        | exact h _ _ hh
        | exact Calls.mono hh (fun e w'' he => by cases e <;> first | exact h _ _ he | exact hp _ _ _ he | exact absurd he ho)
        | exact Rows.mono hh (fun _ _ he => h _ _ he)
  | halt x w' => cases x <;> simp only [Oper.upon] at hh ⊢ <;> exact hp _ _ _ hh
def oneZ (P : Program) (n : Nat) (ops : Array Oper) (Q : (Nat → Value) → World → Prop) (U : List PanicEntry → World → Prop) (fuel : Nat) (listed : Array Bool) (i : Nat) : Exit → (Nat → Value) → World → Prop :=
  fun e σ' w' => (e = .normal ∧ WZ P n ops Q U fuel (listed.setIfInBounds i true) σ' w') ∨ ∃ c, e = .panic c ∧ U c w'
theorem WZ_key {k : Nat} {o : Oper} (hk : ops[k]? = some o) (h : WO P n ops [o] (oneZ P n ops Q U fuel listed k) σ w) :
    wpOp P ops (postZ n Q U) k (wpAny P .any ops (postZ n Q U) fuel (listed.setIfInBounds k true)) (mk n σ) w := by
  unfold WO wpList at h
  unfold wpOp
  simp only [hk]
  have ho : ¬ LetsOut (lift n (oneZ P n ops Q U fuel listed k)) := by
    rintro ⟨a, w, σ', _, (⟨h, _⟩ | ⟨c, h, _⟩)⟩ <;> cases h
  have hkk : ∀ a w', wpList P ops (lift n (oneZ P n ops Q U fuel listed k)) [] a w' → wpAny P .any ops (postZ n Q U) fuel (listed.setIfInBounds k true) a w' := by
    rintro a w' ⟨σ', rfl, (⟨_, hx⟩ | ⟨c, hx, _⟩)⟩
    · unfold WZ at hx; exact hx
    · cases hx
  split at h
  · rename_i hw
    rw [if_pos hw]
    rcases h with h | ⟨_, h⟩
    · refine .inl (wp_twoP hkk (fun c a w hc => ?_) ho h)
      obtain ⟨σ', ha, (⟨hx, _⟩ | ⟨c', hx, hu⟩)⟩ := hc
      · cases hx
      · exact .inr ⟨c', hx, ⟨σ', ha⟩, hu⟩
    · exact absurd h ho
  · rename_i hw
    rw [if_neg hw]; exact hkk _ _ h
theorem WZ_only (i : Nat) {o : Oper} (hr : Region.ready .any ops listed = [i]) (hi : ops[i]? = some o) (h : WO P n ops [o] (oneZ P n ops Q U fuel listed i) σ w) : WZ P n ops Q U (fuel + 1) listed σ w := by
  unfold WZ
  refine wpAny_all hr (by simp) fun j hj => ?_
  obtain rfl : j = i := by simpa using hj
  exact WZ_key hi h
theorem WZ_two (i j : Nat) {oi oj : Oper} (hr : Region.ready .any ops listed = [i, j]) (hi : ops[i]? = some oi) (hj : ops[j]? = some oj)
    (h1 : WO P n ops [oi] (oneZ P n ops Q U fuel listed i) σ w) (h2 : WO P n ops [oj] (oneZ P n ops Q U fuel listed j) σ w) : WZ P n ops Q U (fuel + 1) listed σ w := by
  unfold WZ
  refine wpAny_all hr (by simp) fun k hk => ?_
  rcases List.mem_cons.1 hk with rfl | hk
  · exact WZ_key hi h1
  · obtain rfl : k = j := by simpa using hk
    exact WZ_key hj h2
end
attribute [irreducible] WZ
theorem oneZ_normal {P : Program} {n : Nat} {ops : Array Oper} {Q : (Nat → Value) → World → Prop} {U : List PanicEntry → World → Prop} {fuel : Nat} {listed : Array Bool} {i : Nat} {σ : Nat → Value} {w : World}
    (h : WZ P n ops Q U fuel (listed.setIfInBounds i true) σ w) : oneZ P n ops Q U fuel listed i .normal σ w := .inl ⟨rfl, h⟩
theorem oneZ_panic {P : Program} {n : Nat} {ops : Array Oper} {Q : (Nat → Value) → World → Prop} {U : List PanicEntry → World → Prop} {fuel : Nat} {listed : Array Bool} {i : Nat} {σ : Nat → Value} {w : World} {c : List PanicEntry}
    (h : U c w) : oneZ P n ops Q U fuel listed i (.panic c) σ w := .inr ⟨c, rfl, h⟩
def Rep (ws : List (List UInt8)) (n : Nat) (txt : List UInt8) : Prop := wordsOf txt = ws.drop (n + 1) ∧ txt.length ≤ 8388608
theorem next_nil {s : List UInt8} (h : (nextW s).1 = []) : (nextW s).2 = [] := by
  unfold nextW at h ⊢
  cases hs : skipB s with
  | nil => rfl
  | cons c r =>
    rw [hs] at h
    simp only at h
    split at h
    · cases h
    · rename_i hc
      have := scanW_pos (r := r) (skipB_head hs) (fun e => hc (.inr e))
      have := congrArg List.length h
      simp only [List.length_take, List.length_cons, List.length_nil] at this
      omega
theorem Rep.next {ws : List (List UInt8)} {n : Nat} {txt : List UInt8} (h : Rep ws n txt) : (nextW txt).1 = atW ws (n + 1) ∧ Rep ws (n + 1) (nextW txt).2 := by
  obtain ⟨h1, h2⟩ := h
  have hl := nextW_len txt
  rw [wordsOf_step] at h1
  split at h1
  · rename_i hn
    have hle : ws.length ≤ n + 1 := by
      have := congrArg List.length h1
      simp only [List.length_nil, List.length_drop] at this
      omega
    refine ⟨by rw [hn, atW_ge hle], ?_, by omega⟩
    rw [next_nil hn, wordsOf_nil, List.drop_of_length_le (by omega)]
  · have hlt : n + 1 < ws.length := by
      have := congrArg List.length h1
      simp only [List.length_cons, List.length_drop] at this
      omega
    rw [drop_nth hlt] at h1
    injection h1 with e1 e2
    exact ⟨by rw [e1, atW_lt hlt], e2, by omega⟩
theorem Rep.start (s : List UInt8) (hl : s.length ≤ 8388608) : (nextW s).1 = atW (wordsOf s) 0 ∧ Rep (wordsOf s) 0 (nextW s).2 := by
  have hl' := nextW_len s
  rw [wordsOf_step s]
  split
  · rename_i hn
    refine ⟨by rw [hn]; rfl, ?_, by omega⟩
    rw [next_nil hn, wordsOf_nil]; rfl
  · exact ⟨rfl, rfl, by omega⟩
theorem sign_idx (s : List UInt8) : (0 < zIdx signsL s 0 ↔ signN s ≠ 0) ∧ (signN s ≠ 0 → zIdx signsL s 0 = signN s) := by
  by_cases h0 : s = []
  · subst h0; decide
  by_cases h1 : s = [60]
  · subst h1; decide
  by_cases h2 : s = [61]
  · subst h2; decide
  by_cases h3 : s = [60, 61]
  · subst h3; decide
  by_cases h4 : s = [62]
  · subst h4; decide
  by_cases h5 : s = [60, 62]
  · subst h5; decide
  by_cases h6 : s = [62, 61]
  · subst h6; decide
  by_cases h7 : s = [60, 61, 62]
  · subst h7; decide
  simp only [signN, signsL, zIdx, h0, h1, h2, h3, h4, h5, h6, h7, if_false]
  decide
theorem kind_idx {s : List UInt8} (h : s ≠ []) : (0 < zIdx wordsL s 0 ↔ kindW s ≠ 0) ∧ (kindW s ≠ 0 → zIdx wordsL s 0 = kindW s) := by
  by_cases h0 : s = [97, 110, 100]
  · subst h0; decide
  by_cases h1 : s = [111, 114]
  · subst h1; decide
  by_cases h2 : s = [105, 102]
  · subst h2; decide
  by_cases h3 : s = [119, 105, 116, 104]
  · subst h3; decide
  by_cases h4 : s = [119, 105, 116, 104, 111, 117, 116]
  · subst h4; decide
  simp only [kindW, wordsL, zIdx, h, h0, h1, h2, h3, h4, if_false]
  decide
theorem drew_owns {w w' : World} {base : Nat} {e : TypeId} {size : Nat} {v : Value} {n : Nat} {xs : List Value} (h : Drew w w') (hw : w.ownsRow base e size v n xs) : w'.ownsRow base e size v n xs := by obtain ⟨m, rfl⟩ := h; exact hw
theorem grown_own {w w1 w2 : World} {b : Nat} {r : Option Nat} (g : w.grownBy w1 (some b)) (h : w1.grownBy w2 r) (hr : ∀ k, r = some k → w.heap.size ≤ k) : w.grownBy w2 (some b) :=
  ⟨h.os.trans g.os, h.tape.trans g.tape, h.output.trans g.output, Nat.le_trans g.size h.size, fun k hk hne =>
    (h.block k (Nat.lt_of_lt_of_le hk g.size) (fun e => by have := hr k e.symm; omega)).trans (g.block k hk hne)⟩
end Go.Proofs.YthhacfehjgfpbaaDoor
end
section
namespace Go.Proofs.YthhacfehjgfpbaaDoor
open Go Go.RowKit
theorem en_36 : Enters Tryd.prog 36 := enters_of Tryd.func36 (by kernel_rfl) rfl
theorem en_35 : Enters Tryd.prog 35 := enters_of Tryd.func35 (by kernel_rfl) rfl
def oddCh : List PanicEntry := [{ v := .iface 65 (.agg #[]), recovered := false }]
theorem readA_le {ws : List (List UInt8)} {n : Nat} {t : DepT} {m : Nat} (h : readA ws n = some (t, m)) : m ≤ ws.length + 2 := readF_le h
theorem readA_gt {ws : List (List UInt8)} {n : Nat} {t : DepT} {m : Nat} (h : readA ws n = some (t, m)) : n < m := readF_gt h
theorem takeR_any (ws : List (List UInt8)) (n b : Nat) (txt : List UInt8) (w : World) (hb : w.heap[b]? = some (.cells #[S (txt), S (atW ws n)] 69 (0, 0))) (hR : Rep ws n txt) :
  Calls Tryd.prog 48 #[.pointer (some ⟨b, 0, none⟩)] w (Ret fun v w' => v = S (atW ws n) ∧ ∃ tx, w'.heap[b]? = some (.cells #[S tx, S (atW ws (n + 1))] 69 (0, 0)) ∧ Rep ws (n + 1) tx ∧ w.grownBy w' (some b)) :=
 (take_any b txt (atW ws n) w hb hR.2).mono fun _ _ h => h.mono fun v w' ⟨h1, h2, h3⟩ => ⟨h1, _, by rw [h2, hR.next.1], hR.next.2, h3⟩
theorem nextR_any (ws : List (List UInt8)) (n b : Nat) (txt : List UInt8) (w : World) (hb : w.heap[b]? = some (.cells #[S (txt), S (atW ws n)] 69 (0, 0))) (hR : Rep ws n txt) :
  Calls Tryd.prog 34 #[.pointer (some ⟨b, 0, none⟩)] w (Ret fun v w' => ∃ tx, w'.heap[b]? = some (.cells #[S tx, S (atW ws (n + 1))] 69 (0, 0)) ∧ Rep ws (n + 1) tx ∧ w.grownBy w' (some b)) :=
 (next_any b txt (atW ws n) w hb hR.2).mono fun _ _ h => h.mono fun v w' ⟨h2, h3⟩ => ⟨_, by rw [h2, hR.next.1], hR.next.2, h3⟩
def OneT (ws : List (List UInt8)) (n b : Nat) (w : World) (v : Value) (w' : World) : Prop :=
 ∃ (k op : Int) (nm ev : List UInt8) (args : List DepT) (m : Nat) (tx : List UInt8) (sv : Value) (css : List (List Value)), readA ws n = some (.mk k nm op ev args, m) ∧ v = .agg #[.int .i64 k, S nm, .int .i64 op, S ev, sv] ∧
  RowX (fun k => w.heap.size ≤ k) w' sv args.length 5 css.flatten ∧ ArgsX (fun k => w.heap.size ≤ k) w' args css ∧ w'.heap[b]? = some (.cells #[S tx, S (atW ws m)] 69 (0, 0)) ∧ Rep ws m tx ∧ w.grownBy w' (some b)
def OneSaid (ws : List (List UInt8)) (n : Nat) : Prop := ∀ (b : Nat) (txt : List UInt8) (w : World), w.heap[b]? = some (.cells #[S (txt), S (atW ws n)] 69 (0, 0)) → Rep ws n txt →
  Calls Tryd.prog 35 #[.pointer (some ⟨b, 0, none⟩)] w (Pan oddCh (OneT ws n b w) (fun w' => readA ws n = none ∧ w.grownBy w' (some b)))
set_option maxHeartbeats 400000 in
set_option maxRecDepth 100000 in
theorem need_any (c : Bool) (w : World) :
  Calls Tryd.prog 36 #[(.bool c)] w (Pan oddCh (fun v w' => c = true ∧ v = .tuple #[] ∧ w = w') (fun w' => c = false ∧ w = w')) := by
 refine calls_W Tryd.func36 rfl Tryd.ntmps36 ?_
 refine W_seq ?_
 refine W_reg ?_
 refine WO_pure (v := (.bool c)) rfl rfl ?_
 refine WO_pure (v := (.bool (!c))) rfl rfl ?_
 refine WO_nil ?_
 refine W_cond (t := !c) rfl (fun c1 => ?_) (fun c1 => ?_)
 ·refine W_reg ?_
  refine WO_same (v := .agg #[]) rfl (by kernel_rfl) ?_
  refine WO_same (v := .iface 65 (.agg #[])) rfl (by kernel_rfl) ?_
  refine WO_panic (v := .iface 65 (.agg #[])) (w' := w) rfl (by kernel_rfl) ?_
  ·have hU : c = false ∧ w = w := ⟨by simpa using c1, rfl⟩
   exact (show Pan oddCh (fun v w' => c = true ∧ v = .tuple #[] ∧ w = w') (fun w' => c = false ∧ w = w') (.panicked oddCh) w from Pan.pan hU)
 ·refine W_skip ?_
  refine body_retp0 (fn := Tryd.f36) (by first | exact .inl rfl | exact .inr rfl) rfl ?_
  exact ⟨by simpa using c1, rfl, rfl⟩
set_option maxHeartbeats 4000000 in
set_option maxRecDepth 100000 in
theorem one_step (ws : List (List UInt8)) (hl : ws.length ≤ 8388608) (hx : ∀ x ∈ ws, x.length ≤ 8388608) (n : Nat) (hn : n ≤ ws.length + 3) (ih : ∀ n', n < n' → n' ≤ ws.length + 3 → OneSaid ws n') (b : Nat) (txt : List UInt8) (w : World) (hb : w.heap[b]? = some (.cells #[S (txt), S (atW ws n)] 69 (0, 0))) (hR : Rep ws n txt) :
  Calls Tryd.prog 35 #[(.pointer (some ⟨b, 0, none⟩))] w (Pan oddCh (fun v w' => OneT ws n b w v w') (fun w' => readA ws n = none ∧ w.grownBy w' (some b))) := by
 have hbl := heap_lt hb
 refine calls_W Tryd.func35 rfl Tryd.ntmps35 ?_
 refine W_seq ?_
 refine W_reg ?_
 refine WO_alloc (v := (.agg #[(.int .i64 0), (S []), (.int .i64 0), (S []), (.slice none 0 0)])) rfl (fun _ => by kernel_rfl) (fun w1 n1 => ?_)
 have e1 : w1.heap[w.heap.size]? = some (.cells #[(.int .i64 0), (S []), (.int .i64 0), (S []), (.slice none 0 0)] 39 (0, 0)) := n1.here
 have z1 := n1.size
 refine WO_nil ?_
 refine W_seq ?_
 refine W_reg ?_
 refine WO_pure (v := (.pointer (some ⟨b, 0, none⟩))) rfl rfl ?_
 refine WO_call rfl (by exact en_48) (takeR_any ws n b txt _ (n1.keep hb) hR) ?_
 rintro _ wt2 ⟨rfl, tx2, ht2, hr2, gt2⟩
 have z_t2 := gt2.size
 refine WO_pure (v := (S ((atW ws n)))) rfl rfl ?_
 refine WO_nil ?_
 refine W_seq ?_
 refine W_seq ?_
 refine W_reg ?_
 refine WO_pure (v := (S ((atW ws n)))) rfl rfl ?_
 refine WO_sneq (l1 := (atW ws n)) (l2 := [40]) rfl rfl rfl ?_
 refine WO_nil ?_
 refine W_cond (t := !decide ((atW ws n) = [40])) rfl (fun c1 => ?_) (fun c1 => ?_)
 ·refine W_seq ?_
  refine W_reg ?_
  have hw : atW ws n ≠ [40] := by simpa using c1
  refine WO_pure (v := (S ((atW ws n)))) rfl rfl ?_
  refine WO_call rfl (by exact en_14) (name_any (atW ws n) _ (by have := atW_len hx n; omega)) ?_
  rintro _ wn3 ⟨rfl, bn3⟩
  have zn3 := bn3.size
  refine WO_callp rfl (by exact en_36) (need_any (nameB (atW ws n)) _) (by rintro wp ⟨n_ok, rfl⟩; have hU : readA ws n = none ∧ w.grownBy wn3 (some b) := ⟨by rw [readA_name hw]; unfold nameF; rw [if_pos n_ok], (grown_bel (World.grownBy.trans (grown_new (grown_refl w _) n1) gt2) bn3)⟩; exact (show Pan oddCh (fun v w' => OneT ws n b w v w') (fun w' => readA ws n = none ∧ w.grownBy w' (some b)) (.panicked oddCh) wn3 from Pan.pan hU)) ?_
  rintro _ _ ⟨n_ok, rfl, rfl⟩
  refine WO_nil ?_
  refine W_seq ?_
  refine W_reg ?_
  refine WO_pure (v := (S ((atW ws n)))) rfl rfl ?_
  refine WO_same (v := (.agg #[(.int .i64 1), (S ((atW ws n))), (.int .i64 0), (S []), (.slice none 0 0)])) rfl (by kernel_rfl) ?_
  refine WO_alloc (v := (.agg #[(.int .i64 0), (S []), (.int .i64 0), (S []), (.slice none 0 0)])) rfl (fun _ => by kernel_rfl) (fun w4 n4 => ?_)
  have e4 : w4.heap[wn3.heap.size]? = some (.cells #[(.int .i64 0), (S []), (.int .i64 0), (S []), (.slice none 0 0)] 39 (0, 0)) := n4.here
  have z4 := n4.size
  have p5 := e4
  refine WO_storerow (b := wn3.heap.size) (o := 0) (c' := #[(.int .i64 1), (S ((atW ws n))), (.int .i64 0), (S []), (.slice none 0 0)]) rfl rfl rfl (fun _ => by kernel_rfl) (by simp [Value.oneCell']) p5 (by simp) (fun w5 u5 => ?_)
  have e5 : w5.heap[wn3.heap.size]? = some (.cells #[(.int .i64 1), (S ((atW ws n))), (.int .i64 0), (S []), (.slice none 0 0)] 39 (0, 0)) := u5.here
  have z5 := u5.size
  refine WO_nil ?_
  refine W_seq ?_
  refine W_seq ?_
  refine W_order (by kernel_rfl) (fun w6 d6 => ?_)
  have z6 := d6.ext.size
  refine WX_take 1 rfl (by kernel_rfl) (by kernel_rfl) (by kernel_rfl) rfl (fun _ => pure_run (v := (.pointer (some ⟨b, 0, none⟩))) rfl) ?_
  refine WX_take 2 rfl (by kernel_rfl) (by kernel_rfl) (by kernel_rfl) rfl (fun _ => pure_run (v := (.pointer (some ⟨b, 0, none⟩))) rfl) ?_
  refine WX_take 3 rfl (by kernel_rfl) (by kernel_rfl) (by kernel_rfl) rfl (v := (.pointer (some ⟨b, 1, none⟩))) (fun _ => by kernel_rfl) ?_
  refine WX_two 0 4 (by kernel_rfl) rfl rfl ?_ ?_
  ·refine WO_call rfl (by exact en_24) (signs_any _) ?_
   rintro ls7 wl_7 ⟨hl7, bl7⟩
   have zl7 := bl7.size
   refine WO_nil (⟨rfl, ?_⟩)
   refine WX_only 4 (by kernel_rfl) rfl ?_
   refine WO_load (a := ⟨b, 1, none⟩) (v := (S ((atW ws (n + 1))))) rfl rfl Tryd.underlying9 rfl (cell_of (below_keep bl7 (drew_keep d6 (u5.keep (n4.keep (below_keep bn3 ht2)) (heap_ne (n4.keep (below_keep bn3 ht2)) p5 (by decide))))) rfl) ?_
   refine WO_nil (⟨rfl, ?_⟩)
   refine WX_only 5 (by kernel_rfl) rfl ?_
   refine WO_call rfl (by exact en_20) (index_any _ _ (atW ws (n + 1)) _ hl7 (by decide)) ?_
   rintro _ _ ⟨rfl, rfl⟩
   refine WO_nil (⟨rfl, ?_⟩)
   refine WX_take 6 rfl (by kernel_rfl) (by kernel_rfl) (by kernel_rfl) rfl (fun _ => pure_run (v := (.int .i64 (zIdx signsL (atW ws (n + 1)) 0))) rfl) ?_
   refine WX_done (by kernel_rfl) ?_
   refine W_seq ?_
   refine W_reg ?_
   have hsi := sign_idx (atW ws (n + 1))
   have hsg0 : ¬ 0 < zIdx signsL (atW ws (n + 1)) 0 → signN (atW ws (n + 1)) = 0 := fun h => Decidable.byContradiction fun h2 => h (hsi.1.2 h2)
   have hsg1 : 0 < zIdx signsL (atW ws (n + 1)) 0 → signN (atW ws (n + 1)) ≠ 0 := hsi.1.1
   have hsg2 := hsi.2
   refine WO_pure (v := (.int .i64 (zIdx signsL (atW ws (n + 1)) 0))) rfl rfl ?_
   refine WO_pure (v := (.bool (decide (0 < (zIdx signsL (atW ws (n + 1)) 0))))) rfl rfl ?_
   refine WO_nil ?_
   refine W_if (p := 0 < (zIdx signsL (atW ws (n + 1)) 0)) rfl (fun c2 => ?_) (fun c2 => ?_)
   ·refine W_seq ?_
    refine W_reg ?_
    refine WO_pure (v := (.pointer (some ⟨b, 0, none⟩))) rfl rfl ?_
    refine WO_call rfl (by exact en_34) (nextR_any ws (n + 1) b tx2 _ (below_keep bl7 (drew_keep d6 (u5.keep (n4.keep (below_keep bn3 ht2)) (heap_ne (n4.keep (below_keep bn3 ht2)) p5 (by decide))))) hr2) ?_
    rintro _ wt8 ⟨tx8, ht8, hr8, gt8⟩
    have z_t8 := gt8.size
    refine WO_nil ?_
    refine W_reg ?_
    refine WO_pure (v := (.int .i64 (zIdx signsL (atW ws (n + 1)) 0))) rfl rfl ?_
    refine WO_pure (v := (.pointer (some ⟨b, 0, none⟩))) rfl rfl ?_
    refine WO_call rfl (by exact en_48) (takeR_any ws (n + 2) b tx8 _ ht8 hr8) ?_
    rintro _ wt9 ⟨rfl, tx9, ht9, hr9, gt9⟩
    have z_t9 := gt9.size
    refine WO_same (v := (.pointer (some ⟨wn3.heap.size, 2, none⟩))) rfl (by kernel_rfl) ?_
    have p10 := (grown_keep gt9 (grown_keep gt8 (below_keep bl7 (drew_keep d6 e5)) (by first | assumption | omega | (intro e; have e2 := Option.some.inj e; omega) | (simp; omega))) (by first | assumption | omega | (intro e; have e2 := Option.some.inj e; omega) | (simp; omega)))
    refine WO_store (b := wn3.heap.size) (o := 2) (v := (.int .i64 (zIdx signsL (atW ws (n + 1)) 0))) rfl rfl rfl (fun _ => by kernel_rfl) rfl p10 (by simp) (fun w10 u10 => ?_)
    have e10 : w10.heap[wn3.heap.size]? = some (.cells #[(.int .i64 1), (S ((atW ws n))), (.int .i64 (zIdx signsL (atW ws (n + 1)) 0)), (S []), (.slice none 0 0)] 39 (0, 0)) := u10.here
    have z10 := u10.size
    refine WO_same (v := (.pointer (some ⟨wn3.heap.size, 3, none⟩))) rfl (by kernel_rfl) ?_
    have p11 := e10
    refine WO_store (b := wn3.heap.size) (o := 3) (v := (S ((atW ws (n + 2))))) rfl rfl rfl (fun _ => by kernel_rfl) rfl p11 (by simp) (fun w11 u11 => ?_)
    have e11 : w11.heap[wn3.heap.size]? = some (.cells #[(.int .i64 1), (S ((atW ws n))), (.int .i64 (zIdx signsL (atW ws (n + 1)) 0)), (S ((atW ws (n + 2)))), (.slice none 0 0)] 39 (0, 0)) := u11.here
    have z11 := u11.size
    refine WO_nil ?_
    refine W_seq ?_
    refine W_reg ?_
    refine WO_loadrow (b := wn3.heap.size) (o := 0) (m := 5) (c := #[(.int .i64 1), (S ((atW ws n))), (.int .i64 (zIdx signsL (atW ws (n + 1)) 0)), (S ((atW ws (n + 2)))), (.slice none 0 0)]) rfl rfl Tryd.underlying39 rfl (fun _ => by kernel_rfl) e11 (by simp) ?_
    refine WO_eq 32 (v' := (.agg #[(.int .i64 1), (S ((atW ws n))), (.int .i64 (zIdx signsL (atW ws (n + 1)) 0)), (S ((atW ws (n + 2)))), (.slice none 0 0)])) rfl rfl ?_
    have p12 := (u11.keep (u10.keep (grown_keep gt9 (grown_keep gt8 (below_keep bl7 (drew_keep d6 (u5.keep (n4.keep (below_keep bn3 (grown_keep gt2 e1 (by first | assumption | omega | (intro e; have e2 := Option.some.inj e; omega) | (simp; omega))))) (by first | assumption | omega | (simp; omega))))) (by first | assumption | omega | (intro e; have e2 := Option.some.inj e; omega) | (simp; omega))) (by first | assumption | omega | (intro e; have e2 := Option.some.inj e; omega) | (simp; omega))) (by first | assumption | omega | (simp; omega))) (by first | assumption | omega | (simp; omega)))
    refine WO_storerow (b := w.heap.size) (o := 0) (c' := #[(.int .i64 1), (S ((atW ws n))), (.int .i64 (zIdx signsL (atW ws (n + 1)) 0)), (S ((atW ws (n + 2)))), (.slice none 0 0)]) rfl rfl rfl (fun _ => by kernel_rfl) (by simp [Value.oneCell']) p12 (by simp) (fun w12 u12 => ?_)
    have e12 : w12.heap[w.heap.size]? = some (.cells #[(.int .i64 1), (S ((atW ws n))), (.int .i64 (zIdx signsL (atW ws (n + 1)) 0)), (S ((atW ws (n + 2)))), (.slice none 0 0)] 39 (0, 0)) := u12.here
    have z12 := u12.size
    refine WO_nil ?_
    refine W_ret ?_
    refine body_retpc1 (b := w.heap.size) (c := #[(.int .i64 1), (S ((atW ws n))), (.int .i64 (zIdx signsL (atW ws (n + 1)) 0)), (S ((atW ws (n + 2)))), (.slice none 0 0)]) rfl rfl Tryd.underlying39 rfl (fun _ => by kernel_rfl) e12 ?_
    have c2 := c2
    refine ⟨_, _, _, _, [], (n + 3), _, _, [], by rw [readA_name hw]; unfold nameF; rw [if_neg (by simp [n_ok]), if_neg (hsg1 c2), ← hsg2 (hsg1 c2)], rfl, RowX.nil, ArgsX.nil, (u12.keep (u11.keep (u10.keep ht9 (heap_ne ht9 p10 (by decide))) (heap_ne (u10.keep ht9 (heap_ne ht9 p10 (by decide))) p11 (by decide))) (heap_ne (u11.keep (u10.keep ht9 (heap_ne ht9 p10 (by decide))) (heap_ne (u10.keep ht9 (heap_ne ht9 p10 (by decide))) p11 (by decide))) p12 (by decide))), hr9, (grown_upd (grown_upd (grown_upd (World.grownBy.trans (World.grownBy.trans (grown_bel (grown_drew (grown_upd (grown_new (grown_bel (World.grownBy.trans (grown_new (grown_refl w _) n1) gt2) bn3) n4) u5 (by first | (left; omega) | (right; rfl))) d6) bl7) gt8) gt9) u10 (by first | (left; omega) | (right; rfl))) u11 (by first | (left; omega) | (right; rfl))) u12 (by first | (left; omega) | (right; rfl)))⟩
   ·refine W_skip ?_
    refine W_seq ?_
    refine W_reg ?_
    refine WO_loadrow (b := wn3.heap.size) (o := 0) (m := 5) (c := #[(.int .i64 1), (S ((atW ws n))), (.int .i64 0), (S []), (.slice none 0 0)]) rfl rfl Tryd.underlying39 rfl (fun _ => by kernel_rfl) (below_keep bl7 (drew_keep d6 e5)) (by simp) ?_
    refine WO_eq 32 (v' := (.agg #[(.int .i64 1), (S ((atW ws n))), (.int .i64 0), (S []), (.slice none 0 0)])) rfl rfl ?_
    have p13 := (below_keep bl7 (drew_keep d6 (u5.keep (n4.keep (below_keep bn3 (grown_keep gt2 e1 (by first | assumption | omega | (intro e; have e2 := Option.some.inj e; omega) | (simp; omega))))) (by first | assumption | omega | (simp; omega)))))
    refine WO_storerow (b := w.heap.size) (o := 0) (c' := #[(.int .i64 1), (S ((atW ws n))), (.int .i64 0), (S []), (.slice none 0 0)]) rfl rfl rfl (fun _ => by kernel_rfl) (by simp [Value.oneCell']) p13 (by simp) (fun w13 u13 => ?_)
    have e13 : w13.heap[w.heap.size]? = some (.cells #[(.int .i64 1), (S ((atW ws n))), (.int .i64 0), (S []), (.slice none 0 0)] 39 (0, 0)) := u13.here
    have z13 := u13.size
    refine WO_nil ?_
    refine W_ret ?_
    refine body_retpc1 (b := w.heap.size) (c := #[(.int .i64 1), (S ((atW ws n))), (.int .i64 0), (S []), (.slice none 0 0)]) rfl rfl Tryd.underlying39 rfl (fun _ => by kernel_rfl) e13 ?_
    have c2 := c2
    refine ⟨_, _, _, _, [], (n + 1), _, _, [], by rw [readA_name hw]; unfold nameF; rw [if_neg (by simp [n_ok]), if_pos (hsg0 c2)], rfl, RowX.nil, ArgsX.nil, (u13.keep (below_keep bl7 (drew_keep d6 (u5.keep (n4.keep (below_keep bn3 ht2)) (heap_ne (n4.keep (below_keep bn3 ht2)) p5 (by decide))))) (heap_ne (below_keep bl7 (drew_keep d6 (u5.keep (n4.keep (below_keep bn3 ht2)) (heap_ne (n4.keep (below_keep bn3 ht2)) p5 (by decide))))) p13 (by decide))), hr2, (grown_upd (grown_bel (grown_drew (grown_upd (grown_new (grown_bel (World.grownBy.trans (grown_new (grown_refl w _) n1) gt2) bn3) n4) u5 (by first | (left; omega) | (right; rfl))) d6) bl7) u13 (by first | (left; omega) | (right; rfl)))⟩
  ·refine WO_load (a := ⟨b, 1, none⟩) (v := (S ((atW ws (n + 1))))) rfl rfl Tryd.underlying9 rfl (cell_of (drew_keep d6 (u5.keep (n4.keep (below_keep bn3 ht2)) (heap_ne (n4.keep (below_keep bn3 ht2)) p5 (by decide)))) rfl) ?_
   refine WO_nil (⟨rfl, ?_⟩)
   refine WX_only 0 (by kernel_rfl) rfl ?_
   refine WO_call rfl (by exact en_24) (signs_any _) ?_
   rintro ls14 wl_14 ⟨hl14, bl14⟩
   have zl14 := bl14.size
   refine WO_nil (⟨rfl, ?_⟩)
   refine WX_only 5 (by kernel_rfl) rfl ?_
   refine WO_call rfl (by exact en_20) (index_any _ _ (atW ws (n + 1)) _ hl14 (by decide)) ?_
   rintro _ _ ⟨rfl, rfl⟩
   refine WO_nil (⟨rfl, ?_⟩)
   refine WX_take 6 rfl (by kernel_rfl) (by kernel_rfl) (by kernel_rfl) rfl (fun _ => pure_run (v := (.int .i64 (zIdx signsL (atW ws (n + 1)) 0))) rfl) ?_
   refine WX_done (by kernel_rfl) ?_
   refine W_seq ?_
   refine W_reg ?_
   have hsi := sign_idx (atW ws (n + 1))
   have hsg0 : ¬ 0 < zIdx signsL (atW ws (n + 1)) 0 → signN (atW ws (n + 1)) = 0 := fun h => Decidable.byContradiction fun h2 => h (hsi.1.2 h2)
   have hsg1 : 0 < zIdx signsL (atW ws (n + 1)) 0 → signN (atW ws (n + 1)) ≠ 0 := hsi.1.1
   have hsg2 := hsi.2
   refine WO_pure (v := (.int .i64 (zIdx signsL (atW ws (n + 1)) 0))) rfl rfl ?_
   refine WO_pure (v := (.bool (decide (0 < (zIdx signsL (atW ws (n + 1)) 0))))) rfl rfl ?_
   refine WO_nil ?_
   refine W_if (p := 0 < (zIdx signsL (atW ws (n + 1)) 0)) rfl (fun c3 => ?_) (fun c3 => ?_)
   ·refine W_seq ?_
    refine W_reg ?_
    refine WO_pure (v := (.pointer (some ⟨b, 0, none⟩))) rfl rfl ?_
    refine WO_call rfl (by exact en_34) (nextR_any ws (n + 1) b tx2 _ (below_keep bl14 (drew_keep d6 (u5.keep (n4.keep (below_keep bn3 ht2)) (heap_ne (n4.keep (below_keep bn3 ht2)) p5 (by decide))))) hr2) ?_
    rintro _ wt15 ⟨tx15, ht15, hr15, gt15⟩
    have z_t15 := gt15.size
    refine WO_nil ?_
    refine W_reg ?_
    refine WO_pure (v := (.int .i64 (zIdx signsL (atW ws (n + 1)) 0))) rfl rfl ?_
    refine WO_pure (v := (.pointer (some ⟨b, 0, none⟩))) rfl rfl ?_
    refine WO_call rfl (by exact en_48) (takeR_any ws (n + 2) b tx15 _ ht15 hr15) ?_
    rintro _ wt16 ⟨rfl, tx16, ht16, hr16, gt16⟩
    have z_t16 := gt16.size
    refine WO_same (v := (.pointer (some ⟨wn3.heap.size, 2, none⟩))) rfl (by kernel_rfl) ?_
    have p17 := (grown_keep gt16 (grown_keep gt15 (below_keep bl14 (drew_keep d6 e5)) (by first | assumption | omega | (intro e; have e2 := Option.some.inj e; omega) | (simp; omega))) (by first | assumption | omega | (intro e; have e2 := Option.some.inj e; omega) | (simp; omega)))
    refine WO_store (b := wn3.heap.size) (o := 2) (v := (.int .i64 (zIdx signsL (atW ws (n + 1)) 0))) rfl rfl rfl (fun _ => by kernel_rfl) rfl p17 (by simp) (fun w17 u17 => ?_)
    have e17 : w17.heap[wn3.heap.size]? = some (.cells #[(.int .i64 1), (S ((atW ws n))), (.int .i64 (zIdx signsL (atW ws (n + 1)) 0)), (S []), (.slice none 0 0)] 39 (0, 0)) := u17.here
    have z17 := u17.size
    refine WO_same (v := (.pointer (some ⟨wn3.heap.size, 3, none⟩))) rfl (by kernel_rfl) ?_
    have p18 := e17
    refine WO_store (b := wn3.heap.size) (o := 3) (v := (S ((atW ws (n + 2))))) rfl rfl rfl (fun _ => by kernel_rfl) rfl p18 (by simp) (fun w18 u18 => ?_)
    have e18 : w18.heap[wn3.heap.size]? = some (.cells #[(.int .i64 1), (S ((atW ws n))), (.int .i64 (zIdx signsL (atW ws (n + 1)) 0)), (S ((atW ws (n + 2)))), (.slice none 0 0)] 39 (0, 0)) := u18.here
    have z18 := u18.size
    refine WO_nil ?_
    refine W_seq ?_
    refine W_reg ?_
    refine WO_loadrow (b := wn3.heap.size) (o := 0) (m := 5) (c := #[(.int .i64 1), (S ((atW ws n))), (.int .i64 (zIdx signsL (atW ws (n + 1)) 0)), (S ((atW ws (n + 2)))), (.slice none 0 0)]) rfl rfl Tryd.underlying39 rfl (fun _ => by kernel_rfl) e18 (by simp) ?_
    refine WO_eq 32 (v' := (.agg #[(.int .i64 1), (S ((atW ws n))), (.int .i64 (zIdx signsL (atW ws (n + 1)) 0)), (S ((atW ws (n + 2)))), (.slice none 0 0)])) rfl rfl ?_
    have p19 := (u18.keep (u17.keep (grown_keep gt16 (grown_keep gt15 (below_keep bl14 (drew_keep d6 (u5.keep (n4.keep (below_keep bn3 (grown_keep gt2 e1 (by first | assumption | omega | (intro e; have e2 := Option.some.inj e; omega) | (simp; omega))))) (by first | assumption | omega | (simp; omega))))) (by first | assumption | omega | (intro e; have e2 := Option.some.inj e; omega) | (simp; omega))) (by first | assumption | omega | (intro e; have e2 := Option.some.inj e; omega) | (simp; omega))) (by first | assumption | omega | (simp; omega))) (by first | assumption | omega | (simp; omega)))
    refine WO_storerow (b := w.heap.size) (o := 0) (c' := #[(.int .i64 1), (S ((atW ws n))), (.int .i64 (zIdx signsL (atW ws (n + 1)) 0)), (S ((atW ws (n + 2)))), (.slice none 0 0)]) rfl rfl rfl (fun _ => by kernel_rfl) (by simp [Value.oneCell']) p19 (by simp) (fun w19 u19 => ?_)
    have e19 : w19.heap[w.heap.size]? = some (.cells #[(.int .i64 1), (S ((atW ws n))), (.int .i64 (zIdx signsL (atW ws (n + 1)) 0)), (S ((atW ws (n + 2)))), (.slice none 0 0)] 39 (0, 0)) := u19.here
    have z19 := u19.size
    refine WO_nil ?_
    refine W_ret ?_
    refine body_retpc1 (b := w.heap.size) (c := #[(.int .i64 1), (S ((atW ws n))), (.int .i64 (zIdx signsL (atW ws (n + 1)) 0)), (S ((atW ws (n + 2)))), (.slice none 0 0)]) rfl rfl Tryd.underlying39 rfl (fun _ => by kernel_rfl) e19 ?_
    have c2 := c3
    refine ⟨_, _, _, _, [], (n + 3), _, _, [], by rw [readA_name hw]; unfold nameF; rw [if_neg (by simp [n_ok]), if_neg (hsg1 c2), ← hsg2 (hsg1 c2)], rfl, RowX.nil, ArgsX.nil, (u19.keep (u18.keep (u17.keep ht16 (heap_ne ht16 p17 (by decide))) (heap_ne (u17.keep ht16 (heap_ne ht16 p17 (by decide))) p18 (by decide))) (heap_ne (u18.keep (u17.keep ht16 (heap_ne ht16 p17 (by decide))) (heap_ne (u17.keep ht16 (heap_ne ht16 p17 (by decide))) p18 (by decide))) p19 (by decide))), hr16, (grown_upd (grown_upd (grown_upd (World.grownBy.trans (World.grownBy.trans (grown_bel (grown_drew (grown_upd (grown_new (grown_bel (World.grownBy.trans (grown_new (grown_refl w _) n1) gt2) bn3) n4) u5 (by first | (left; omega) | (right; rfl))) d6) bl14) gt15) gt16) u17 (by first | (left; omega) | (right; rfl))) u18 (by first | (left; omega) | (right; rfl))) u19 (by first | (left; omega) | (right; rfl)))⟩
   ·refine W_skip ?_
    refine W_seq ?_
    refine W_reg ?_
    refine WO_loadrow (b := wn3.heap.size) (o := 0) (m := 5) (c := #[(.int .i64 1), (S ((atW ws n))), (.int .i64 0), (S []), (.slice none 0 0)]) rfl rfl Tryd.underlying39 rfl (fun _ => by kernel_rfl) (below_keep bl14 (drew_keep d6 e5)) (by simp) ?_
    refine WO_eq 32 (v' := (.agg #[(.int .i64 1), (S ((atW ws n))), (.int .i64 0), (S []), (.slice none 0 0)])) rfl rfl ?_
    have p20 := (below_keep bl14 (drew_keep d6 (u5.keep (n4.keep (below_keep bn3 (grown_keep gt2 e1 (by first | assumption | omega | (intro e; have e2 := Option.some.inj e; omega) | (simp; omega))))) (by first | assumption | omega | (simp; omega)))))
    refine WO_storerow (b := w.heap.size) (o := 0) (c' := #[(.int .i64 1), (S ((atW ws n))), (.int .i64 0), (S []), (.slice none 0 0)]) rfl rfl rfl (fun _ => by kernel_rfl) (by simp [Value.oneCell']) p20 (by simp) (fun w20 u20 => ?_)
    have e20 : w20.heap[w.heap.size]? = some (.cells #[(.int .i64 1), (S ((atW ws n))), (.int .i64 0), (S []), (.slice none 0 0)] 39 (0, 0)) := u20.here
    have z20 := u20.size
    refine WO_nil ?_
    refine W_ret ?_
    refine body_retpc1 (b := w.heap.size) (c := #[(.int .i64 1), (S ((atW ws n))), (.int .i64 0), (S []), (.slice none 0 0)]) rfl rfl Tryd.underlying39 rfl (fun _ => by kernel_rfl) e20 ?_
    have c2 := c3
    refine ⟨_, _, _, _, [], (n + 1), _, _, [], by rw [readA_name hw]; unfold nameF; rw [if_neg (by simp [n_ok]), if_pos (hsg0 c2)], rfl, RowX.nil, ArgsX.nil, (u20.keep (below_keep bl14 (drew_keep d6 (u5.keep (n4.keep (below_keep bn3 ht2)) (heap_ne (n4.keep (below_keep bn3 ht2)) p5 (by decide))))) (heap_ne (below_keep bl14 (drew_keep d6 (u5.keep (n4.keep (below_keep bn3 ht2)) (heap_ne (n4.keep (below_keep bn3 ht2)) p5 (by decide))))) p20 (by decide))), hr2, (grown_upd (grown_bel (grown_drew (grown_upd (grown_new (grown_bel (World.grownBy.trans (grown_new (grown_refl w _) n1) gt2) bn3) n4) u5 (by first | (left; omega) | (right; rfl))) d6) bl14) u20 (by first | (left; omega) | (right; rfl)))⟩
 ·refine W_skip ?_
  refine W_seq ?_
  refine W_reg ?_
  have hw : atW ws n = [40] := by simpa using c1
  have hlt : n < ws.length := atW_some (by rw [hw]; simp)
  refine WO_pure (v := (.pointer (some ⟨b, 0, none⟩))) rfl rfl ?_
  refine WO_callp rfl (by exact en_35) (ih (n + 1) (by omega) (by omega) b tx2 _ ht2 hr2) (by rintro wp hp; have hU : readA ws n = none ∧ w.grownBy wp (some b) := ⟨by rw [readA_step hw, hp.1, restF_none], World.grownBy.trans (World.grownBy.trans (grown_new (grown_refl w _) n1) gt2) hp.2⟩; exact (show Pan oddCh (fun v w' => OneT ws n b w v w') (fun w' => readA ws n = none ∧ w.grownBy w' (some b)) (.panicked oddCh) wp from Pan.pan hU)) ?_
  rintro _ woa ⟨ka, opa, nma, eva, asa, ma, txa, sva, cssa, hra, rfl, rxa, axa, hta, hRa, goa⟩
  have z_a := goa.size
  have hma := readA_le hra
  have hga := readA_gt hra
  refine WO_bslice (k := 1) (cs := #[(.int .i64 ka), (S nma), (.int .i64 opa), (S eva), sva]) (e := 39) rfl (fun _ => by kernel_rfl) (fun w21 n21 => ?_)
  have e21 : w21.heap[woa.heap.size]? = some (.cells #[(.int .i64 ka), (S nma), (.int .i64 opa), (S eva), sva] 39 (0, 0)) := n21.here
  have z21 := n21.size
  have o21 := n21.owned (base := w.heap.size) (size := 5) (k := 1) (by omega) (by omega) rfl
  refine WO_same (v := (.agg #[(.int .i64 0), (S []), (.int .i64 0), (S []), (.slice (some ⟨woa.heap.size, 0, none⟩) 1 1)])) rfl (by kernel_rfl) ?_
  refine WO_alloc (v := (.agg #[(.int .i64 0), (S []), (.int .i64 0), (S []), (.slice none 0 0)])) rfl (fun _ => by kernel_rfl) (fun w22 n22 => ?_)
  have e22 : w22.heap[w21.heap.size]? = some (.cells #[(.int .i64 0), (S []), (.int .i64 0), (S []), (.slice none 0 0)] 39 (0, 0)) := n22.here
  have z22 := n22.size
  have p23 := e22
  refine WO_storerow (b := w21.heap.size) (o := 0) (c' := #[(.int .i64 0), (S []), (.int .i64 0), (S []), (.slice (some ⟨woa.heap.size, 0, none⟩) 1 1)]) rfl rfl rfl (fun _ => by kernel_rfl) (by simp [Value.oneCell']) p23 (by simp) (fun w23 u23 => ?_)
  have e23 : w23.heap[w21.heap.size]? = some (.cells #[(.int .i64 0), (S []), (.int .i64 0), (S []), (.slice (some ⟨woa.heap.size, 0, none⟩) 1 1)] 39 (0, 0)) := u23.here
  have z23 := u23.size
  refine WO_nil ?_
  refine W_seq ?_
  refine W_reg ?_
  refine WO_pure (v := (.pointer (some ⟨b, 0, none⟩))) rfl rfl ?_
  refine WO_pure (v := (.pointer (some ⟨b, 0, none⟩))) rfl rfl ?_
  refine WO_same (v := (.pointer (some ⟨b, 1, none⟩))) rfl (by kernel_rfl) ?_
  refine WO_load (a := ⟨b, 1, none⟩) (v := (S ((atW ws ma)))) rfl rfl Tryd.underlying9 rfl (cell_of (u23.keep (n22.keep (n21.keep hta)) (heap_ne (n22.keep (n21.keep hta)) p23 (by decide))) rfl) ?_
  refine WO_pure (v := (S ((atW ws ma)))) rfl rfl ?_
  refine WO_nil ?_
  refine W_seq ?_
  refine W_reg ?_
  refine WO_pure (v := (S ((atW ws ma)))) rfl rfl ?_
  refine WO_sneq (l1 := (atW ws ma)) (l2 := []) rfl rfl rfl ?_
  refine WO_callp rfl (by exact en_36) (need_any (!decide ((atW ws ma) = [])) _) (by rintro wp ⟨w_ok, rfl⟩; have hU : readA ws n = none ∧ w.grownBy w23 (some b) := ⟨by rw [readA_step hw, hra, restF_kind (by rw [show atW ws ma = [] by simpa using w_ok]; rfl)], (grown_upd (grown_new (grown_new (World.grownBy.trans (World.grownBy.trans (grown_new (grown_refl w _) n1) gt2) goa) n21) n22) u23 (by first | (left; omega) | (right; rfl)))⟩; exact (show Pan oddCh (fun v w' => OneT ws n b w v w') (fun w' => readA ws n = none ∧ w.grownBy w' (some b)) (.panicked oddCh) w23 from Pan.pan hU)) ?_
  rintro _ _ ⟨w_ok, rfl, rfl⟩
  refine WO_nil ?_
  refine W_seq ?_
  refine W_reg ?_
  refine WO_call rfl (by exact en_25) (words_any _) ?_
  rintro ls24 wl_24 ⟨hl24, bl24⟩
  have zl24 := bl24.size
  refine WO_pure (v := (S ((atW ws ma)))) rfl rfl ?_
  refine WO_call rfl (by exact en_20) (index_any _ _ (atW ws ma) _ hl24 (by decide)) ?_
  rintro _ _ ⟨rfl, rfl⟩
  refine WO_same (v := (.pointer (some ⟨w21.heap.size, 0, none⟩))) rfl (by kernel_rfl) ?_
  have p25 := (below_keep bl24 e23)
  refine WO_store (b := w21.heap.size) (o := 0) (v := (.int .i64 (zIdx wordsL (atW ws ma) 0))) rfl rfl rfl (fun _ => by kernel_rfl) rfl p25 (by simp) (fun w25 u25 => ?_)
  have e25 : w25.heap[w21.heap.size]? = some (.cells #[(.int .i64 (zIdx wordsL (atW ws ma) 0)), (S []), (.int .i64 0), (S []), (.slice (some ⟨woa.heap.size, 0, none⟩) 1 1)] 39 (0, 0)) := u25.here
  have z25 := u25.size
  refine WO_nil ?_
  refine W_seq ?_
  refine W_reg ?_
  refine WO_same (v := (.pointer (some ⟨w21.heap.size, 0, none⟩))) rfl (by kernel_rfl) ?_
  refine WO_load (a := ⟨w21.heap.size, 0, none⟩) (v := (.int .i64 (zIdx wordsL (atW ws ma) 0))) rfl rfl Tryd.underlying3 rfl (cell_of e25 rfl) ?_
  refine WO_pure (v := (.bool (decide (0 < (zIdx wordsL (atW ws ma) 0))))) rfl rfl ?_
  refine WO_callp rfl (by exact en_36) (need_any (decide (0 < (zIdx wordsL (atW ws ma) 0))) _) (by rintro wp ⟨k_ok, rfl⟩; have hU : readA ws n = none ∧ w.grownBy w25 (some b) := ⟨by rw [readA_step hw, hra, restF_kind (Decidable.byContradiction fun h => by simp [(kind_idx (by simpa using w_ok)).1.2 h] at k_ok)], (grown_upd (grown_bel (grown_upd (grown_new (grown_new (World.grownBy.trans (World.grownBy.trans (grown_new (grown_refl w _) n1) gt2) goa) n21) n22) u23 (by first | (left; omega) | (right; rfl))) bl24) u25 (by first | (left; omega) | (right; rfl)))⟩; exact (show Pan oddCh (fun v w' => OneT ws n b w v w') (fun w' => readA ws n = none ∧ w.grownBy w' (some b)) (.panicked oddCh) w25 from Pan.pan hU)) ?_
  rintro _ _ ⟨k_ok, rfl, rfl⟩
  refine WO_nil ?_
  refine W_seq ?_
  refine W_block ?_
  refine W_loop (fun g σ' w' => ∃ (gg nn : Nat) (args : List DepT) (css : List (List Value)) (sv : Value) (tx : List UInt8), σ' 0 = (.pointer (some ⟨b, 0, none⟩)) ∧ σ' 2 = (.pointer (some ⟨w.heap.size, 0, none⟩)) ∧ σ' 6 = (.pointer (some ⟨w21.heap.size, 0, none⟩)) ∧ σ' 7 = (S ((atW ws ma))) ∧ w'.heap[w.heap.size]? = some (.cells #[(.int .i64 0), (S []), (.int .i64 0), (S []), (.slice none 0 0)] 39 (0, 0)) ∧ w'.heap[w21.heap.size]? = some (.cells #[(.int .i64 (zIdx wordsL (atW ws ma) 0)), (S []), (.int .i64 0), (S []), sv] 39 (0, 0)) ∧ w'.heap[b]? = some (.cells #[(S tx), (S ((atW ws nn)))] 69 (0, 0)) ∧ w'.ownsRow w.heap.size 39 5 sv args.length css.flatten ∧ argsF (readA ws) ws (atW ws ma) (ws.length + 1) [(DepT.mk ka nma opa eva asa)] ma = argsF (readA ws) ws (atW ws ma) gg args nn ∧ 0 < gg ∧ ws.length + 1 ≤ gg + nn ∧ nn ≤ ws.length + 2 ∧ 1 ≤ args.length ∧ args.length ≤ nn ∧ ArgsX (fun k => w.heap.size < k ∧ some k ≠ Value.ownBlock sv ∧ k ≠ w21.heap.size) w' args css ∧ some w21.heap.size ≠ Value.ownBlock sv ∧ some w.heap.size ≠ Value.ownBlock sv ∧ Rep ws nn tx ∧ w.grownBy w' (some b) ∧ ma ≤ nn ∧ g = ws.length + 3 - nn) ?_ ?_
  ·refine ⟨_, (ws.length + 1), ma, [(DepT.mk ka nma opa eva asa)], [[.int .i64 ka, S nma, .int .i64 opa, S eva, sva]], (.slice (some ⟨woa.heap.size, 0, none⟩) 1 1), txa, rfl, rfl, rfl, rfl, (u25.keep (below_keep bl24 (u23.keep (n22.keep (n21.keep (grown_keep goa (grown_keep gt2 e1 (by first | assumption | omega | (intro e; have e2 := Option.some.inj e; omega) | (simp; omega))) (by first | assumption | omega | (intro e; have e2 := Option.some.inj e; omega) | (simp; omega))))) (by first | assumption | omega | (simp; omega)))) (by first | assumption | omega | (simp; omega))), e25, (u25.keep (below_keep bl24 (u23.keep (n22.keep (n21.keep hta)) (heap_ne (n22.keep (n21.keep hta)) p23 (by decide)))) (heap_ne (below_keep bl24 (u23.keep (n22.keep (n21.keep hta)) (heap_ne (n22.keep (n21.keep hta)) p23 (by decide)))) p25 (by decide))), (by simpa [List.map_append] using (u25.owns (below_owns bl24 (u23.owns (n22.owns o21) (by first | assumption | (intro e; have e2 : woa.heap.size = _ := Option.some.inj e; omega) | (simp_all; done)))) (by first | assumption | (intro e; have e2 : woa.heap.size = _ := Option.some.inj e; omega) | (simp_all; done)))), ?_, ?_, ?_, ?_, ?_, ?_, ?_, ?_, ?_, ?_, ?_, ?_, rfl⟩
   ·rfl
   ·omega
   ·omega
   ·omega
   ·simp
   ·simp; omega
   ·exact ArgsX.one (DepX.intro (RowX.go rxa (fun b' hb' hp => by change _ ≤ b' at hp; exact ⟨⟨by omega, fun e => by have e2 : b' = woa.heap.size := Option.some.inj e; omega, by omega⟩, ((u25.block b' (by first | assumption | omega | (intro e; have e2 := Option.some.inj e; omega) | (intro e; have := (hbo _ e.symm).2; omega) | (intro e; simp_all; done) | (intro e; simp_all; omega))).trans ((bl24.block b' (by omega)).trans ((u23.block b' (by first | assumption | omega | (intro e; have e2 := Option.some.inj e; omega) | (intro e; have := (hbo _ e.symm).2; omega) | (intro e; simp_all; done) | (intro e; simp_all; omega))).trans ((n22.ext.block b' (by omega)).trans (n21.ext.block b' (by omega))))))⟩) (by omega)) (ArgsX.go (fun b' hb' hp => by change _ ≤ b' at hp; exact ⟨⟨by omega, fun e => by have e2 : b' = woa.heap.size := Option.some.inj e; omega, by omega⟩, ((u25.block b' (by first | assumption | omega | (intro e; have e2 := Option.some.inj e; omega) | (intro e; have := (hbo _ e.symm).2; omega) | (intro e; simp_all; done) | (intro e; simp_all; omega))).trans ((bl24.block b' (by omega)).trans ((u23.block b' (by first | assumption | omega | (intro e; have e2 := Option.some.inj e; omega) | (intro e; have := (hbo _ e.symm).2; omega) | (intro e; simp_all; done) | (intro e; simp_all; omega))).trans ((n22.ext.block b' (by omega)).trans (n21.ext.block b' (by omega))))))⟩) (by omega) _ _ axa))
   ·intro e; have e2 : woa.heap.size = _ := Option.some.inj e.symm; omega
   ·intro e; have e2 : woa.heap.size = _ := Option.some.inj e.symm; omega
   ·exact hRa
   ·exact (grown_upd (grown_bel (grown_upd (grown_new (grown_new (World.grownBy.trans (World.grownBy.trans (grown_new (grown_refl w _) n1) gt2) goa) n21) n22) u23 (by first | (left; omega) | (right; rfl))) bl24) u25 (by first | (left; omega) | (right; rfl)))
   ·omega
  ·rintro g σl1 wl1 ⟨gg, nn, args, css, sv, tx, l1_0, l1_2, l1_6, l1_7, k1_1, k1_2, k1_3, k1_4, f1_1, f1_2, f1_3, f1_4, f1_5, f1_6, f1_7, f1_8, f1_9, f1_10, f1_11, f1_12, rfl⟩
   refine W_anchor (d := 0) l1_0 (W_anchor (d := 2) l1_2 (W_anchor (d := 6) l1_6 (W_anchor (d := 7) l1_7 (?_))))
   have hkw : kindW (atW ws ma) ≠ 0 := (kind_idx (by simpa using w_ok)).1.1 (by simpa using k_ok)
   have hkk : zIdx wordsL (atW ws ma) 0 = kindW (atW ws ma) := (kind_idx (by simpa using w_ok)).2 hkw
   have hbd := heap_lt k1_2
   have hbo := k1_4.lt
   have z_wl1 := f1_11.size
   refine W_seq ?_
   refine W_seq ?_
   refine W_reg ?_
   refine WO_pure (v := (.pointer (some ⟨b, 0, none⟩))) rfl rfl ?_
   refine WO_pure (v := (.pointer (some ⟨b, 0, none⟩))) rfl rfl ?_
   refine WO_same (v := (.pointer (some ⟨b, 1, none⟩))) rfl (by kernel_rfl) ?_
   refine WO_load (a := ⟨b, 1, none⟩) (v := (S ((atW ws nn)))) rfl rfl Tryd.underlying9 rfl (cell_of k1_3 rfl) ?_
   refine WO_pure (v := (S ((atW ws ma)))) rfl rfl ?_
   refine WO_seql (l1 := (atW ws nn)) (l2 := (atW ws ma)) rfl rfl rfl ?_
   refine WO_nil ?_
   refine W_if (p := (atW ws nn) = (atW ws ma)) rfl (fun c4 => ?_) (fun c4 => ?_)
   ·refine W_skip ?_
    refine W_block ?_
    refine W_cut (fun σ' w' => wl1 = w' ∧ σ' 0 = (.pointer (some ⟨b, 0, none⟩)) ∧ σ' 2 = (.pointer (some ⟨w.heap.size, 0, none⟩)) ∧ σ' 6 = (.pointer (some ⟨w21.heap.size, 0, none⟩)) ∧ σ' 7 = (S ((atW ws ma))) ∧ ¬ ((atW ws ma = [105, 102] ∨ atW ws ma = [119, 105, 116, 104, 111, 117, 116]) ∧ 1 < args.length)) ?_ ?_
    ·refine W_reg ?_
     have ckw := c4
     refine WO_same (v := (.pointer (some ⟨w21.heap.size, 4, none⟩))) rfl (by kernel_rfl) ?_
     refine WO_load (a := ⟨w21.heap.size, 4, none⟩) (v := sv) rfl rfl Tryd.underlying37 rfl (cell_of k1_2 rfl) ?_
     refine WO_lenrow (v := sv) (m := args.length) (sz := 5) rfl rfl (RowIs.owned k1_4) Tryd.underlying37 ?_
     refine WO_pure (v := (.bool (decide ((args.length : Int) = 1)))) rfl rfl ?_
     refine WO_pure (v := (.bool (decide ((args.length : Int) = 1)))) rfl rfl ?_
     refine WO_splitp 62 (p := (args.length : Int) = 1) (by exact rfl) (fun c5 => ?_) (fun c5 => ?_)
     ·refine WO_pass rfl ?_
      refine WO_pass rfl ?_
      refine WO_pass rfl ?_
      refine WO_pass rfl ?_
      refine WO_pass rfl ?_
      refine WO_pass rfl ?_
      refine WO_pure (v := (.bool true)) rfl rfl ?_
      refine WO_callp rfl (by exact en_36) (need_any true _) (by rintro wp ⟨a_ok, rfl⟩; have hU : readA ws n = none ∧ w.grownBy wl1 (some b) := ⟨by rw [readA_step hw, hra, restF_bad hkw (by rw [f1_1]; exact argsF_much ckw (by first | (simp at a_ok; done) | (rw [kindW_if, kindW_without]; exact ⟨by first | (exact .inl (by assumption)) | (exact .inr (by simpa using a_ok)) | (simp_all; done), by omega⟩)))], (World.grownBy.trans (grown_refl w _) f1_11)⟩; exact (show Pan oddCh (fun v w' => OneT ws n b w v w') (fun w' => readA ws n = none ∧ w.grownBy w' (some b)) (.panicked oddCh) wl1 from Pan.pan hU)) ?_
      rintro _ _ ⟨a_ok, rfl, rfl⟩
      refine WO_nil ?_
      exact ⟨rfl, rfl, rfl, rfl, rfl, (by first | (simp at a_ok; done) | (rintro ⟨h | h, h2⟩ <;> first | omega | (exact absurd h (by assumption)) | (simp [h] at a_ok; done) | (simp_all; done)))⟩
     ·refine WO_pure (v := (S ((atW ws ma)))) rfl rfl ?_
      refine WO_sneq (l1 := (atW ws ma)) (l2 := [105, 102]) rfl rfl rfl ?_
      refine WO_pure (v := (.bool (!decide ((atW ws ma) = [105, 102])))) rfl rfl ?_
      refine WO_split 65 (b := !decide ((atW ws ma) = [105, 102])) (by exact rfl) (fun c6 => ?_) (fun c6 => ?_)
      ·refine WO_pure (v := (S ((atW ws ma)))) rfl rfl ?_
       refine WO_sneq (l1 := (atW ws ma)) (l2 := [119, 105, 116, 104, 111, 117, 116]) rfl rfl rfl ?_
       refine WO_pure (v := (.bool (!decide ((atW ws ma) = [119, 105, 116, 104, 111, 117, 116])))) rfl rfl ?_
       refine WO_pure (v := (.bool (!decide ((atW ws ma) = [119, 105, 116, 104, 111, 117, 116])))) rfl rfl ?_
       refine WO_callp rfl (by exact en_36) (need_any (!decide ((atW ws ma) = [119, 105, 116, 104, 111, 117, 116])) _) (by rintro wp ⟨a_ok, rfl⟩; have hU : readA ws n = none ∧ w.grownBy wl1 (some b) := ⟨by rw [readA_step hw, hra, restF_bad hkw (by rw [f1_1]; exact argsF_much ckw (by first | (simp at a_ok; done) | (rw [kindW_if, kindW_without]; exact ⟨by first | (exact .inl (by assumption)) | (exact .inr (by simpa using a_ok)) | (simp_all; done), by omega⟩)))], (World.grownBy.trans (grown_refl w _) f1_11)⟩; exact (show Pan oddCh (fun v w' => OneT ws n b w v w') (fun w' => readA ws n = none ∧ w.grownBy w' (some b)) (.panicked oddCh) wl1 from Pan.pan hU)) ?_
       rintro _ _ ⟨a_ok, rfl, rfl⟩
       refine WO_nil ?_
       exact ⟨rfl, rfl, rfl, rfl, rfl, (by first | (simp at a_ok; done) | (rintro ⟨h | h, h2⟩ <;> first | omega | (exact absurd h (by assumption)) | (simp [h] at a_ok; done) | (simp_all; done)))⟩
      ·refine WO_pass rfl ?_
       refine WO_pass rfl ?_
       refine WO_pure (v := (.bool false)) rfl rfl ?_
       refine WO_pure (v := (.bool false)) rfl rfl ?_
       refine WO_callp rfl (by exact en_36) (need_any false _) (by rintro wp ⟨a_ok, rfl⟩; have hU : readA ws n = none ∧ w.grownBy wl1 (some b) := ⟨by rw [readA_step hw, hra, restF_bad hkw (by rw [f1_1]; exact argsF_much ckw (by first | (simp at a_ok; done) | (rw [kindW_if, kindW_without]; exact ⟨by first | (exact .inl (by assumption)) | (exact .inr (by simpa using a_ok)) | (simp_all; done), by omega⟩)))], (World.grownBy.trans (grown_refl w _) f1_11)⟩; exact (show Pan oddCh (fun v w' => OneT ws n b w v w') (fun w' => readA ws n = none ∧ w.grownBy w' (some b)) (.panicked oddCh) wl1 from Pan.pan hU)) ?_
       rintro _ _ ⟨a_ok, rfl, rfl⟩
       refine WO_nil ?_
       exact ⟨rfl, rfl, rfl, rfl, rfl, (by first | (simp at a_ok; done) | (rintro ⟨h | h, h2⟩ <;> first | omega | (exact absurd h (by assumption)) | (simp [h] at a_ok; done) | (simp_all; done)))⟩
    ·rintro σ1 _ ⟨rfl, h1_0, h1_2, h1_6, h1_7, amuch⟩
     refine W_anchor (d := 0) h1_0 (W_anchor (d := 2) h1_2 (W_anchor (d := 6) h1_6 (W_anchor (d := 7) h1_7 (?_))))
     refine W_seq ?_
     refine W_reg ?_
     have ckw := c4
     refine WO_pure (v := (.pointer (some ⟨b, 0, none⟩))) rfl rfl ?_
     refine WO_call rfl (by exact en_34) (nextR_any ws nn b tx _ k1_3 f1_10) ?_
     rintro _ wt26 ⟨tx26, ht26, hr26, gt26⟩
     have z_t26 := gt26.size
     refine WO_nil ?_
     refine W_orderZ (by kernel_rfl) (fun w27 d27 => ?_)
     have z27 := d27.ext.size
     refine WZ_take 0 rfl (by kernel_rfl) (by kernel_rfl) (by kernel_rfl) rfl (v := (.pointer (some ⟨w21.heap.size, 4, none⟩))) (fun _ => by kernel_rfl) ?_
     refine WZ_take 2 rfl (by kernel_rfl) (by kernel_rfl) (by kernel_rfl) rfl (fun _ => pure_run (v := (.pointer (some ⟨b, 0, none⟩))) rfl) ?_
     refine WZ_two 1 3 (by kernel_rfl) rfl rfl ?_ ?_
     ·refine WO_load (a := ⟨w21.heap.size, 4, none⟩) (v := sv) rfl rfl Tryd.underlying37 rfl (cell_of (drew_keep d27 (grown_keep gt26 k1_2 (by first | assumption | omega | (intro e; have e2 := Option.some.inj e; omega) | (simp; omega)))) rfl) ?_
      refine WO_nil (oneZ_normal ?_)
      refine WZ_only 3 (by kernel_rfl) rfl ?_
      refine WO_callp rfl (by exact en_35) (ih (nn + 1) (by omega) (by omega) b tx26 _ (drew_keep d27 ht26) hr26) (by rintro wp hp; have hU : readA ws n = none ∧ w.grownBy wp (some b) := ⟨by rw [readA_step hw, hra, restF_bad hkw (by rw [f1_1]; exact argsF_fail ckw hp.1)], World.grownBy.trans (grown_drew (World.grownBy.trans (World.grownBy.trans (grown_refl w _) f1_11) gt26) d27) hp.2⟩; exact oneZ_panic (fun _ => (show Pan oddCh (fun v w' => OneT ws n b w v w') (fun w' => readA ws n = none ∧ w.grownBy w' (some b)) (.panicked oddCh) wp from Pan.pan hU))) ?_
      rintro _ wox ⟨kx, opx, nmx, evx, asx, mx, txx, svx, cssx, hrx, rfl, rxx, axx, htx, hRx, gox⟩
      have z_x := gox.size
      have hmx := readA_le hrx
      have hgx := readA_gt hrx
      refine WO_nil (oneZ_normal ?_)
      refine WZ_only 4 (by kernel_rfl) rfl ?_
      refine WO_bslice (k := 1) (cs := #[(.int .i64 kx), (S nmx), (.int .i64 opx), (S evx), svx]) (e := 39) rfl (fun _ => by kernel_rfl) (fun w28 n28 => ?_)
      have e28 : w28.heap[wox.heap.size]? = some (.cells #[(.int .i64 kx), (S nmx), (.int .i64 opx), (S evx), svx] 39 (0, 0)) := n28.here
      have z28 := n28.size
      have o28 := n28.owned (base := w.heap.size) (size := 5) (k := 1) (by omega) (by omega) rfl
      refine WO_nil (oneZ_normal ?_)
      refine WZ_only 5 (by kernel_rfl) rfl ?_
      have o29a := (n28.owns (World.ownsRow.kept (drew_owns d27 (World.ownsRow.kept k1_4 gt26 (by first | assumption | (right; intro e; have := (k1_4.lt _ e).1; omega) | simp_all))) gox (by first | assumption | (right; intro e; have := (k1_4.lt _ e).1; omega) | simp_all)))
      refine WO_append1 (v := sv) (sz := 5) (base := w.heap.size) (bytes := 72) rfl rfl rfl Tryd.underlying37 (by kernel_rfl) (by decide) o29a rfl e28 (by intro v hv; simp only [List.mem_cons, List.not_mem_nil, or_false] at hv; rcases hv with hv | hv | hv | hv | hv <;> (rw [hv]; first | rfl | exact oneCell_is (rxx.1.ext n28.ext))) (by omega) (by omega) (by omega) (fun a29 w29 o29 g29 y29 => ?_)
      have z29 := g29.size
      have q29_0 : some w.heap.size ≠ Value.ownBlock a29 := by intro e; rcases y29 with y | y <;> rw [y] at e <;> first | (exact absurd e (by assumption)) | (have e2 : w.heap.size = _ := Option.some.inj e; omega) | (have e2 : _ = w.heap.size := Option.some.inj e; omega)
      have q29_1 : some w21.heap.size ≠ Value.ownBlock a29 := by intro e; rcases y29 with y | y <;> rw [y] at e <;> first | (exact absurd e (by assumption)) | (have e2 : w21.heap.size = _ := Option.some.inj e; omega) | (have e2 : _ = w21.heap.size := Option.some.inj e; omega)
      refine WO_nil (oneZ_normal ?_)
      refine WZ_take 6 rfl (by kernel_rfl) (by kernel_rfl) (by kernel_rfl) rfl (v := (.pointer (some ⟨w21.heap.size, 4, none⟩))) (fun _ => by kernel_rfl) ?_
      refine WZ_only 7 (by kernel_rfl) rfl ?_
      have p30 := (grown_keep g29 (n28.keep (grown_keep gox (drew_keep d27 (grown_keep gt26 k1_2 (by first | assumption | omega | (intro e; have e2 := Option.some.inj e; omega) | (simp; omega)))) (by first | assumption | omega | (intro e; have e2 := Option.some.inj e; omega) | (simp; omega)))) (by first | assumption | omega | (simp; omega)))
      refine WO_store (b := w21.heap.size) (o := 4) (v := a29) rfl rfl rfl (fun _ => by kernel_rfl) (oneC_owned o29) p30 (by simp) (fun w30 u30 => ?_)
      have e30 : w30.heap[w21.heap.size]? = some (.cells #[(.int .i64 (zIdx wordsL (atW ws ma) 0)), (S []), (.int .i64 0), (S []), a29] 39 (0, 0)) := u30.here
      have z30 := u30.size
      refine WO_nil (oneZ_normal ?_)
      refine WZ_done (by kernel_rfl) ?_
      refine ⟨_, ?_, (gg - 1), mx, (args ++ [(DepT.mk kx nmx opx evx asx)]), (css ++ [[.int .i64 kx, S nmx, .int .i64 opx, S evx, svx]]), a29, txx, rfl, rfl, rfl, rfl, (u30.keep (grown_keep g29 (n28.keep (grown_keep gox (drew_keep d27 (grown_keep gt26 k1_1 (by first | assumption | omega | (intro e; have e2 := Option.some.inj e; omega) | (simp; omega)))) (by first | assumption | omega | (intro e; have e2 := Option.some.inj e; omega) | (simp; omega)))) (by first | assumption | omega | (simp; omega))) (by first | assumption | omega | (simp; omega))), e30, (u30.keep (grown_keep g29 (n28.keep htx) (cell_ne_own o29a (n28.keep htx) (by decide))) (heap_ne (grown_keep g29 (n28.keep htx) (cell_ne_own o29a (n28.keep htx) (by decide))) p30 (by decide))), (by simpa [List.map_append] using (u30.owns o29 (by first | assumption | (exact Ne.symm (by assumption)) | (simp_all; done) | (intro e; have := (o29.lt _ e).2; omega)))), ?_, ?_, ?_, ?_, ?_, ?_, ?_, ?_, ?_, ?_, ?_, ?_, rfl⟩
      ·omega
      ·rw [f1_1, argsF_more f1_2 ckw (fun h => amuch ⟨h.1.imp kindW_if.1 kindW_without.1, h.2⟩) hrx]
      ·have := kindW_lt (ws := ws) (n := nn) (by rw [ckw]; exact hkw); omega
      ·omega
      ·omega
      ·rw [List.length_append, List.length_singleton]; omega
      ·rw [List.length_append, List.length_singleton]; omega
      ·exact ArgsX.snoc (DepX.intro (RowX.go rxx (fun b' hb' hp => by change _ ≤ b' at hp; exact ⟨⟨by omega, fun e => by rcases y29 with y | y <;> rw [y] at e <;> first | (exact absurd e (by assumption)) | (have := hbo _ e.symm; omega) | (have e2 : b' = _ := Option.some.inj e; omega), by omega⟩, ((u30.block b' (by first | assumption | omega | (intro e; have e2 := Option.some.inj e; omega) | (intro e; have := (hbo _ e.symm).2; omega) | (intro e; simp_all; done) | (intro e; simp_all; omega))).trans ((g29.block b' (by omega) (by first | assumption | omega | (intro e; have e2 := Option.some.inj e; omega) | (intro e; have := (hbo _ e.symm).2; omega) | (intro e; have := ((o29a).lt _ e.symm).2; omega) | (intro e; simp_all; done) | (intro e; simp_all; omega))).trans (n28.ext.block b' (by omega))))⟩) (by omega)) (ArgsX.go (fun b' hb' hp => by change _ ≤ b' at hp; exact ⟨⟨by omega, fun e => by rcases y29 with y | y <;> rw [y] at e <;> first | (exact absurd e (by assumption)) | (have := hbo _ e.symm; omega) | (have e2 : b' = _ := Option.some.inj e; omega), by omega⟩, ((u30.block b' (by first | assumption | omega | (intro e; have e2 := Option.some.inj e; omega) | (intro e; have := (hbo _ e.symm).2; omega) | (intro e; simp_all; done) | (intro e; simp_all; omega))).trans ((g29.block b' (by omega) (by first | assumption | omega | (intro e; have e2 := Option.some.inj e; omega) | (intro e; have := (hbo _ e.symm).2; omega) | (intro e; have := ((o29a).lt _ e.symm).2; omega) | (intro e; simp_all; done) | (intro e; simp_all; omega))).trans (n28.ext.block b' (by omega))))⟩) (by omega) _ _ axx)) (ArgsX.go (fun b' hb' hp => by obtain ⟨hp1, hp2, hp3⟩ := hp; exact ⟨⟨by omega, fun e => by rcases y29 with y | y <;> rw [y] at e <;> first | (exact absurd e (by assumption)) | (have := hbo _ e.symm; omega) | (have e2 : b' = _ := Option.some.inj e; omega), by omega⟩, ((u30.block b' (by first | assumption | omega | (intro e; have e2 := Option.some.inj e; omega) | (intro e; have := (hbo _ e.symm).2; omega) | (intro e; simp_all; done) | (intro e; simp_all; omega))).trans ((g29.block b' (by omega) (by first | assumption | omega | (intro e; have e2 := Option.some.inj e; omega) | (intro e; have := (hbo _ e.symm).2; omega) | (intro e; have := ((o29a).lt _ e.symm).2; omega) | (intro e; simp_all; done) | (intro e; simp_all; omega))).trans ((n28.ext.block b' (by omega)).trans ((gox.block b' (by omega) (by first | assumption | omega | (intro e; have e2 := Option.some.inj e; omega) | (intro e; have := (hbo _ e.symm).2; omega) | (intro e; simp_all; done) | (intro e; simp_all; omega))).trans ((d27.ext.block b' (by omega)).trans (gt26.block b' (by omega) (by first | assumption | omega | (intro e; have e2 := Option.some.inj e; omega) | (intro e; have := (hbo _ e.symm).2; omega) | (intro e; simp_all; done) | (intro e; simp_all; omega))))))))⟩) (by omega) _ _ f1_7)
      ·assumption
      ·assumption
      ·exact hRx
      ·exact (grown_upd (grown_own (grown_new (World.grownBy.trans (grown_drew (World.grownBy.trans (World.grownBy.trans (grown_refl w _) f1_11) gt26) d27) gox) n28) g29 (own_block_ge o29a)) u30 (by first | (left; omega) | (right; rfl)))
      ·omega
     ·refine WO_callp rfl (by exact en_35) (ih (nn + 1) (by omega) (by omega) b tx26 _ (drew_keep d27 ht26) hr26) (by rintro wp hp; have hU : readA ws n = none ∧ w.grownBy wp (some b) := ⟨by rw [readA_step hw, hra, restF_bad hkw (by rw [f1_1]; exact argsF_fail ckw hp.1)], World.grownBy.trans (grown_drew (World.grownBy.trans (World.grownBy.trans (grown_refl w _) f1_11) gt26) d27) hp.2⟩; exact oneZ_panic (fun _ => (show Pan oddCh (fun v w' => OneT ws n b w v w') (fun w' => readA ws n = none ∧ w.grownBy w' (some b)) (.panicked oddCh) wp from Pan.pan hU))) ?_
      rintro _ wox ⟨kx, opx, nmx, evx, asx, mx, txx, svx, cssx, hrx, rfl, rxx, axx, htx, hRx, gox⟩
      have z_x := gox.size
      have hmx := readA_le hrx
      have hgx := readA_gt hrx
      refine WO_nil (oneZ_normal ?_)
      refine WZ_two 1 4 (by kernel_rfl) rfl rfl ?_ ?_
      ·refine WO_load (a := ⟨w21.heap.size, 4, none⟩) (v := sv) rfl rfl Tryd.underlying37 rfl (cell_of (grown_keep gox (drew_keep d27 (grown_keep gt26 k1_2 (by first | assumption | omega | (intro e; have e2 := Option.some.inj e; omega) | (simp; omega)))) (by first | assumption | omega | (intro e; have e2 := Option.some.inj e; omega) | (simp; omega))) rfl) ?_
       refine WO_nil (oneZ_normal ?_)
       refine WZ_only 4 (by kernel_rfl) rfl ?_
       refine WO_bslice (k := 1) (cs := #[(.int .i64 kx), (S nmx), (.int .i64 opx), (S evx), svx]) (e := 39) rfl (fun _ => by kernel_rfl) (fun w31 n31 => ?_)
       have e31 : w31.heap[wox.heap.size]? = some (.cells #[(.int .i64 kx), (S nmx), (.int .i64 opx), (S evx), svx] 39 (0, 0)) := n31.here
       have z31 := n31.size
       have o31 := n31.owned (base := w.heap.size) (size := 5) (k := 1) (by omega) (by omega) rfl
       refine WO_nil (oneZ_normal ?_)
       refine WZ_only 5 (by kernel_rfl) rfl ?_
       have o32a := (n31.owns (World.ownsRow.kept (drew_owns d27 (World.ownsRow.kept k1_4 gt26 (by first | assumption | (right; intro e; have := (k1_4.lt _ e).1; omega) | simp_all))) gox (by first | assumption | (right; intro e; have := (k1_4.lt _ e).1; omega) | simp_all)))
       refine WO_append1 (v := sv) (sz := 5) (base := w.heap.size) (bytes := 72) rfl rfl rfl Tryd.underlying37 (by kernel_rfl) (by decide) o32a rfl e31 (by intro v hv; simp only [List.mem_cons, List.not_mem_nil, or_false] at hv; rcases hv with hv | hv | hv | hv | hv <;> (rw [hv]; first | rfl | exact oneCell_is (rxx.1.ext n31.ext))) (by omega) (by omega) (by omega) (fun a32 w32 o32 g32 y32 => ?_)
       have z32 := g32.size
       have q32_0 : some w.heap.size ≠ Value.ownBlock a32 := by intro e; rcases y32 with y | y <;> rw [y] at e <;> first | (exact absurd e (by assumption)) | (have e2 : w.heap.size = _ := Option.some.inj e; omega) | (have e2 : _ = w.heap.size := Option.some.inj e; omega)
       have q32_1 : some w21.heap.size ≠ Value.ownBlock a32 := by intro e; rcases y32 with y | y <;> rw [y] at e <;> first | (exact absurd e (by assumption)) | (have e2 : w21.heap.size = _ := Option.some.inj e; omega) | (have e2 : _ = w21.heap.size := Option.some.inj e; omega)
       refine WO_nil (oneZ_normal ?_)
       refine WZ_take 6 rfl (by kernel_rfl) (by kernel_rfl) (by kernel_rfl) rfl (v := (.pointer (some ⟨w21.heap.size, 4, none⟩))) (fun _ => by kernel_rfl) ?_
       refine WZ_only 7 (by kernel_rfl) rfl ?_
       have p33 := (grown_keep g32 (n31.keep (grown_keep gox (drew_keep d27 (grown_keep gt26 k1_2 (by first | assumption | omega | (intro e; have e2 := Option.some.inj e; omega) | (simp; omega)))) (by first | assumption | omega | (intro e; have e2 := Option.some.inj e; omega) | (simp; omega)))) (by first | assumption | omega | (simp; omega)))
       refine WO_store (b := w21.heap.size) (o := 4) (v := a32) rfl rfl rfl (fun _ => by kernel_rfl) (oneC_owned o32) p33 (by simp) (fun w33 u33 => ?_)
       have e33 : w33.heap[w21.heap.size]? = some (.cells #[(.int .i64 (zIdx wordsL (atW ws ma) 0)), (S []), (.int .i64 0), (S []), a32] 39 (0, 0)) := u33.here
       have z33 := u33.size
       refine WO_nil (oneZ_normal ?_)
       refine WZ_done (by kernel_rfl) ?_
       refine ⟨_, ?_, (gg - 1), mx, (args ++ [(DepT.mk kx nmx opx evx asx)]), (css ++ [[.int .i64 kx, S nmx, .int .i64 opx, S evx, svx]]), a32, txx, rfl, rfl, rfl, rfl, (u33.keep (grown_keep g32 (n31.keep (grown_keep gox (drew_keep d27 (grown_keep gt26 k1_1 (by first | assumption | omega | (intro e; have e2 := Option.some.inj e; omega) | (simp; omega)))) (by first | assumption | omega | (intro e; have e2 := Option.some.inj e; omega) | (simp; omega)))) (by first | assumption | omega | (simp; omega))) (by first | assumption | omega | (simp; omega))), e33, (u33.keep (grown_keep g32 (n31.keep htx) (cell_ne_own o32a (n31.keep htx) (by decide))) (heap_ne (grown_keep g32 (n31.keep htx) (cell_ne_own o32a (n31.keep htx) (by decide))) p33 (by decide))), (by simpa [List.map_append] using (u33.owns o32 (by first | assumption | (exact Ne.symm (by assumption)) | (simp_all; done) | (intro e; have := (o32.lt _ e).2; omega)))), ?_, ?_, ?_, ?_, ?_, ?_, ?_, ?_, ?_, ?_, ?_, ?_, rfl⟩
       ·omega
       ·rw [f1_1, argsF_more f1_2 ckw (fun h => amuch ⟨h.1.imp kindW_if.1 kindW_without.1, h.2⟩) hrx]
       ·have := kindW_lt (ws := ws) (n := nn) (by rw [ckw]; exact hkw); omega
       ·omega
       ·omega
       ·rw [List.length_append, List.length_singleton]; omega
       ·rw [List.length_append, List.length_singleton]; omega
       ·exact ArgsX.snoc (DepX.intro (RowX.go rxx (fun b' hb' hp => by change _ ≤ b' at hp; exact ⟨⟨by omega, fun e => by rcases y32 with y | y <;> rw [y] at e <;> first | (exact absurd e (by assumption)) | (have := hbo _ e.symm; omega) | (have e2 : b' = _ := Option.some.inj e; omega), by omega⟩, ((u33.block b' (by first | assumption | omega | (intro e; have e2 := Option.some.inj e; omega) | (intro e; have := (hbo _ e.symm).2; omega) | (intro e; simp_all; done) | (intro e; simp_all; omega))).trans ((g32.block b' (by omega) (by first | assumption | omega | (intro e; have e2 := Option.some.inj e; omega) | (intro e; have := (hbo _ e.symm).2; omega) | (intro e; have := ((o32a).lt _ e.symm).2; omega) | (intro e; simp_all; done) | (intro e; simp_all; omega))).trans (n31.ext.block b' (by omega))))⟩) (by omega)) (ArgsX.go (fun b' hb' hp => by change _ ≤ b' at hp; exact ⟨⟨by omega, fun e => by rcases y32 with y | y <;> rw [y] at e <;> first | (exact absurd e (by assumption)) | (have := hbo _ e.symm; omega) | (have e2 : b' = _ := Option.some.inj e; omega), by omega⟩, ((u33.block b' (by first | assumption | omega | (intro e; have e2 := Option.some.inj e; omega) | (intro e; have := (hbo _ e.symm).2; omega) | (intro e; simp_all; done) | (intro e; simp_all; omega))).trans ((g32.block b' (by omega) (by first | assumption | omega | (intro e; have e2 := Option.some.inj e; omega) | (intro e; have := (hbo _ e.symm).2; omega) | (intro e; have := ((o32a).lt _ e.symm).2; omega) | (intro e; simp_all; done) | (intro e; simp_all; omega))).trans (n31.ext.block b' (by omega))))⟩) (by omega) _ _ axx)) (ArgsX.go (fun b' hb' hp => by obtain ⟨hp1, hp2, hp3⟩ := hp; exact ⟨⟨by omega, fun e => by rcases y32 with y | y <;> rw [y] at e <;> first | (exact absurd e (by assumption)) | (have := hbo _ e.symm; omega) | (have e2 : b' = _ := Option.some.inj e; omega), by omega⟩, ((u33.block b' (by first | assumption | omega | (intro e; have e2 := Option.some.inj e; omega) | (intro e; have := (hbo _ e.symm).2; omega) | (intro e; simp_all; done) | (intro e; simp_all; omega))).trans ((g32.block b' (by omega) (by first | assumption | omega | (intro e; have e2 := Option.some.inj e; omega) | (intro e; have := (hbo _ e.symm).2; omega) | (intro e; have := ((o32a).lt _ e.symm).2; omega) | (intro e; simp_all; done) | (intro e; simp_all; omega))).trans ((n31.ext.block b' (by omega)).trans ((gox.block b' (by omega) (by first | assumption | omega | (intro e; have e2 := Option.some.inj e; omega) | (intro e; have := (hbo _ e.symm).2; omega) | (intro e; simp_all; done) | (intro e; simp_all; omega))).trans ((d27.ext.block b' (by omega)).trans (gt26.block b' (by omega) (by first | assumption | omega | (intro e; have e2 := Option.some.inj e; omega) | (intro e; have := (hbo _ e.symm).2; omega) | (intro e; simp_all; done) | (intro e; simp_all; omega))))))))⟩) (by omega) _ _ f1_7)
       ·assumption
       ·assumption
       ·exact hRx
       ·exact (grown_upd (grown_own (grown_new (World.grownBy.trans (grown_drew (World.grownBy.trans (World.grownBy.trans (grown_refl w _) f1_11) gt26) d27) gox) n31) g32 (own_block_ge o32a)) u33 (by first | (left; omega) | (right; rfl)))
       ·omega
      ·refine WO_bslice (k := 1) (cs := #[(.int .i64 kx), (S nmx), (.int .i64 opx), (S evx), svx]) (e := 39) rfl (fun _ => by kernel_rfl) (fun w34 n34 => ?_)
       have e34 : w34.heap[wox.heap.size]? = some (.cells #[(.int .i64 kx), (S nmx), (.int .i64 opx), (S evx), svx] 39 (0, 0)) := n34.here
       have z34 := n34.size
       have o34 := n34.owned (base := w.heap.size) (size := 5) (k := 1) (by omega) (by omega) rfl
       refine WO_nil (oneZ_normal ?_)
       refine WZ_only 1 (by kernel_rfl) rfl ?_
       refine WO_load (a := ⟨w21.heap.size, 4, none⟩) (v := sv) rfl rfl Tryd.underlying37 rfl (cell_of (n34.keep (grown_keep gox (drew_keep d27 (grown_keep gt26 k1_2 (by first | assumption | omega | (intro e; have e2 := Option.some.inj e; omega) | (simp; omega)))) (by first | assumption | omega | (intro e; have e2 := Option.some.inj e; omega) | (simp; omega)))) rfl) ?_
       refine WO_nil (oneZ_normal ?_)
       refine WZ_only 5 (by kernel_rfl) rfl ?_
       have o35a := (n34.owns (World.ownsRow.kept (drew_owns d27 (World.ownsRow.kept k1_4 gt26 (by first | assumption | (right; intro e; have := (k1_4.lt _ e).1; omega) | simp_all))) gox (by first | assumption | (right; intro e; have := (k1_4.lt _ e).1; omega) | simp_all)))
       refine WO_append1 (v := sv) (sz := 5) (base := w.heap.size) (bytes := 72) rfl rfl rfl Tryd.underlying37 (by kernel_rfl) (by decide) o35a rfl e34 (by intro v hv; simp only [List.mem_cons, List.not_mem_nil, or_false] at hv; rcases hv with hv | hv | hv | hv | hv <;> (rw [hv]; first | rfl | exact oneCell_is (rxx.1.ext n34.ext))) (by omega) (by omega) (by omega) (fun a35 w35 o35 g35 y35 => ?_)
       have z35 := g35.size
       have q35_0 : some w.heap.size ≠ Value.ownBlock a35 := by intro e; rcases y35 with y | y <;> rw [y] at e <;> first | (exact absurd e (by assumption)) | (have e2 : w.heap.size = _ := Option.some.inj e; omega) | (have e2 : _ = w.heap.size := Option.some.inj e; omega)
       have q35_1 : some w21.heap.size ≠ Value.ownBlock a35 := by intro e; rcases y35 with y | y <;> rw [y] at e <;> first | (exact absurd e (by assumption)) | (have e2 : w21.heap.size = _ := Option.some.inj e; omega) | (have e2 : _ = w21.heap.size := Option.some.inj e; omega)
       refine WO_nil (oneZ_normal ?_)
       refine WZ_take 6 rfl (by kernel_rfl) (by kernel_rfl) (by kernel_rfl) rfl (v := (.pointer (some ⟨w21.heap.size, 4, none⟩))) (fun _ => by kernel_rfl) ?_
       refine WZ_only 7 (by kernel_rfl) rfl ?_
       have p36 := (grown_keep g35 (n34.keep (grown_keep gox (drew_keep d27 (grown_keep gt26 k1_2 (by first | assumption | omega | (intro e; have e2 := Option.some.inj e; omega) | (simp; omega)))) (by first | assumption | omega | (intro e; have e2 := Option.some.inj e; omega) | (simp; omega)))) (by first | assumption | omega | (simp; omega)))
       refine WO_store (b := w21.heap.size) (o := 4) (v := a35) rfl rfl rfl (fun _ => by kernel_rfl) (oneC_owned o35) p36 (by simp) (fun w36 u36 => ?_)
       have e36 : w36.heap[w21.heap.size]? = some (.cells #[(.int .i64 (zIdx wordsL (atW ws ma) 0)), (S []), (.int .i64 0), (S []), a35] 39 (0, 0)) := u36.here
       have z36 := u36.size
       refine WO_nil (oneZ_normal ?_)
       refine WZ_done (by kernel_rfl) ?_
       refine ⟨_, ?_, (gg - 1), mx, (args ++ [(DepT.mk kx nmx opx evx asx)]), (css ++ [[.int .i64 kx, S nmx, .int .i64 opx, S evx, svx]]), a35, txx, rfl, rfl, rfl, rfl, (u36.keep (grown_keep g35 (n34.keep (grown_keep gox (drew_keep d27 (grown_keep gt26 k1_1 (by first | assumption | omega | (intro e; have e2 := Option.some.inj e; omega) | (simp; omega)))) (by first | assumption | omega | (intro e; have e2 := Option.some.inj e; omega) | (simp; omega)))) (by first | assumption | omega | (simp; omega))) (by first | assumption | omega | (simp; omega))), e36, (u36.keep (grown_keep g35 (n34.keep htx) (cell_ne_own o35a (n34.keep htx) (by decide))) (heap_ne (grown_keep g35 (n34.keep htx) (cell_ne_own o35a (n34.keep htx) (by decide))) p36 (by decide))), (by simpa [List.map_append] using (u36.owns o35 (by first | assumption | (exact Ne.symm (by assumption)) | (simp_all; done) | (intro e; have := (o35.lt _ e).2; omega)))), ?_, ?_, ?_, ?_, ?_, ?_, ?_, ?_, ?_, ?_, ?_, ?_, rfl⟩
       ·omega
       ·rw [f1_1, argsF_more f1_2 ckw (fun h => amuch ⟨h.1.imp kindW_if.1 kindW_without.1, h.2⟩) hrx]
       ·have := kindW_lt (ws := ws) (n := nn) (by rw [ckw]; exact hkw); omega
       ·omega
       ·omega
       ·rw [List.length_append, List.length_singleton]; omega
       ·rw [List.length_append, List.length_singleton]; omega
       ·exact ArgsX.snoc (DepX.intro (RowX.go rxx (fun b' hb' hp => by change _ ≤ b' at hp; exact ⟨⟨by omega, fun e => by rcases y35 with y | y <;> rw [y] at e <;> first | (exact absurd e (by assumption)) | (have := hbo _ e.symm; omega) | (have e2 : b' = _ := Option.some.inj e; omega), by omega⟩, ((u36.block b' (by first | assumption | omega | (intro e; have e2 := Option.some.inj e; omega) | (intro e; have := (hbo _ e.symm).2; omega) | (intro e; simp_all; done) | (intro e; simp_all; omega))).trans ((g35.block b' (by omega) (by first | assumption | omega | (intro e; have e2 := Option.some.inj e; omega) | (intro e; have := (hbo _ e.symm).2; omega) | (intro e; have := ((o35a).lt _ e.symm).2; omega) | (intro e; simp_all; done) | (intro e; simp_all; omega))).trans (n34.ext.block b' (by omega))))⟩) (by omega)) (ArgsX.go (fun b' hb' hp => by change _ ≤ b' at hp; exact ⟨⟨by omega, fun e => by rcases y35 with y | y <;> rw [y] at e <;> first | (exact absurd e (by assumption)) | (have := hbo _ e.symm; omega) | (have e2 : b' = _ := Option.some.inj e; omega), by omega⟩, ((u36.block b' (by first | assumption | omega | (intro e; have e2 := Option.some.inj e; omega) | (intro e; have := (hbo _ e.symm).2; omega) | (intro e; simp_all; done) | (intro e; simp_all; omega))).trans ((g35.block b' (by omega) (by first | assumption | omega | (intro e; have e2 := Option.some.inj e; omega) | (intro e; have := (hbo _ e.symm).2; omega) | (intro e; have := ((o35a).lt _ e.symm).2; omega) | (intro e; simp_all; done) | (intro e; simp_all; omega))).trans (n34.ext.block b' (by omega))))⟩) (by omega) _ _ axx)) (ArgsX.go (fun b' hb' hp => by obtain ⟨hp1, hp2, hp3⟩ := hp; exact ⟨⟨by omega, fun e => by rcases y35 with y | y <;> rw [y] at e <;> first | (exact absurd e (by assumption)) | (have := hbo _ e.symm; omega) | (have e2 : b' = _ := Option.some.inj e; omega), by omega⟩, ((u36.block b' (by first | assumption | omega | (intro e; have e2 := Option.some.inj e; omega) | (intro e; have := (hbo _ e.symm).2; omega) | (intro e; simp_all; done) | (intro e; simp_all; omega))).trans ((g35.block b' (by omega) (by first | assumption | omega | (intro e; have e2 := Option.some.inj e; omega) | (intro e; have := (hbo _ e.symm).2; omega) | (intro e; have := ((o35a).lt _ e.symm).2; omega) | (intro e; simp_all; done) | (intro e; simp_all; omega))).trans ((n34.ext.block b' (by omega)).trans ((gox.block b' (by omega) (by first | assumption | omega | (intro e; have e2 := Option.some.inj e; omega) | (intro e; have := (hbo _ e.symm).2; omega) | (intro e; simp_all; done) | (intro e; simp_all; omega))).trans ((d27.ext.block b' (by omega)).trans (gt26.block b' (by omega) (by first | assumption | omega | (intro e; have e2 := Option.some.inj e; omega) | (intro e; have := (hbo _ e.symm).2; omega) | (intro e; simp_all; done) | (intro e; simp_all; omega))))))))⟩) (by omega) _ _ f1_7)
       ·assumption
       ·assumption
       ·exact hRx
       ·exact (grown_upd (grown_own (grown_new (World.grownBy.trans (grown_drew (World.grownBy.trans (World.grownBy.trans (grown_refl w _) f1_11) gt26) d27) gox) n34) g35 (own_block_ge o35a)) u36 (by first | (left; omega) | (right; rfl)))
       ·omega
   ·refine W_exit ?_
    refine W_seq ?_
    refine W_cut (fun σ' w' => wl1 = w' ∧ σ' 0 = (.pointer (some ⟨b, 0, none⟩)) ∧ σ' 2 = (.pointer (some ⟨w.heap.size, 0, none⟩)) ∧ σ' 6 = (.pointer (some ⟨w21.heap.size, 0, none⟩)) ∧ σ' 88 = (.bool (decide (atW ws ma = [105, 102] ∧ atW ws nn = [101, 108, 115, 101])))) ?_ ?_
    ·refine W_reg ?_
     refine WO_pure (v := (S ((atW ws ma)))) rfl rfl ?_
     refine WO_seql (l1 := (atW ws ma)) (l2 := [105, 102]) rfl rfl rfl ?_
     refine WO_pure (v := (.bool (decide ((atW ws ma) = [105, 102])))) rfl rfl ?_
     refine WO_splitp 82 (p := (atW ws ma) = [105, 102]) (by exact rfl) (fun c7 => ?_) (fun c7 => ?_)
     ·refine WO_pure (v := (.pointer (some ⟨b, 0, none⟩))) rfl rfl ?_
      refine WO_pure (v := (.pointer (some ⟨b, 0, none⟩))) rfl rfl ?_
      refine WO_same (v := (.pointer (some ⟨b, 1, none⟩))) rfl (by kernel_rfl) ?_
      refine WO_load (a := ⟨b, 1, none⟩) (v := (S ((atW ws nn)))) rfl rfl Tryd.underlying9 rfl (cell_of k1_3 rfl) ?_
      refine WO_seql (l1 := (atW ws nn)) (l2 := [101, 108, 115, 101]) rfl rfl rfl ?_
      refine WO_pure (v := (.bool (decide ((atW ws nn) = [101, 108, 115, 101])))) rfl rfl ?_
      refine WO_nil ?_
      exact ⟨rfl, rfl, rfl, rfl, (by show ((.bool (decide ((atW ws nn) = [101, 108, 115, 101]))) : Value) = (.bool (decide (atW ws ma = [105, 102] ∧ atW ws nn = [101, 108, 115, 101]))); show Value.bool _ = Value.bool _; rw [Value.bool.injEq, Bool.eq_iff_iff]; first | (simp [c7]; done) | (simp [c7]; omega) | (simp_all []; done) | (simp_all []; omega) | (simp only [Bool.or_eq_true, Bool.and_eq_true, Bool.not_eq_true', decide_eq_true_eq, decide_eq_false_iff_not]; grind))⟩
     ·refine WO_pass rfl ?_
      refine WO_pass rfl ?_
      refine WO_pass rfl ?_
      refine WO_pass rfl ?_
      refine WO_pass rfl ?_
      refine WO_pure (v := (.bool false)) rfl rfl ?_
      refine WO_nil ?_
      exact ⟨rfl, rfl, rfl, rfl, (by show ((.bool false) : Value) = (.bool (decide (atW ws ma = [105, 102] ∧ atW ws nn = [101, 108, 115, 101]))); show Value.bool _ = Value.bool _; rw [Value.bool.injEq, Bool.eq_iff_iff]; first | (simp [c7]; done) | (simp [c7]; omega) | (simp_all []; done) | (simp_all []; omega) | (simp only [Bool.or_eq_true, Bool.and_eq_true, Bool.not_eq_true', decide_eq_true_eq, decide_eq_false_iff_not]; grind))⟩
    ·rintro σ2 _ ⟨rfl, h2_0, h2_2, h2_6, h2_88⟩
     refine W_anchor (d := 0) h2_0 (W_anchor (d := 2) h2_2 (W_anchor (d := 6) h2_6 (W_anchor (d := 88) h2_88 (?_))))
     refine W_if (p := atW ws ma = [105, 102] ∧ atW ws nn = [101, 108, 115, 101]) rfl (fun c8 => ?_) (fun c8 => ?_)
     ·refine W_seq ?_
      refine W_reg ?_
      have ckw := c4
      have celse := c8
      refine WO_pure (v := (.pointer (some ⟨b, 0, none⟩))) rfl rfl ?_
      refine WO_call rfl (by exact en_34) (nextR_any ws nn b tx _ k1_3 f1_10) ?_
      rintro _ wt37 ⟨tx37, ht37, hr37, gt37⟩
      have z_t37 := gt37.size
      refine WO_nil ?_
      refine W_orderZ (by kernel_rfl) (fun w38 d38 => ?_)
      have z38 := d38.ext.size
      refine WZ_take 0 rfl (by kernel_rfl) (by kernel_rfl) (by kernel_rfl) rfl (v := (.pointer (some ⟨w21.heap.size, 4, none⟩))) (fun _ => by kernel_rfl) ?_
      refine WZ_take 2 rfl (by kernel_rfl) (by kernel_rfl) (by kernel_rfl) rfl (fun _ => pure_run (v := (.pointer (some ⟨b, 0, none⟩))) rfl) ?_
      refine WZ_two 1 3 (by kernel_rfl) rfl rfl ?_ ?_
      ·refine WO_load (a := ⟨w21.heap.size, 4, none⟩) (v := sv) rfl rfl Tryd.underlying37 rfl (cell_of (drew_keep d38 (grown_keep gt37 k1_2 (by first | assumption | omega | (intro e; have e2 := Option.some.inj e; omega) | (simp; omega)))) rfl) ?_
       refine WO_nil (oneZ_normal ?_)
       refine WZ_only 3 (by kernel_rfl) rfl ?_
       refine WO_callp rfl (by exact en_35) (ih (nn + 1) (by omega) (by omega) b tx37 _ (drew_keep d38 ht37) hr37) (by rintro wp hp; have hU : readA ws n = none ∧ w.grownBy wp (some b) := ⟨by rw [readA_step hw, hra, restF_end hkw (by rw [f1_1]; exact argsF_stop f1_2 ckw), elseF_fail ⟨kindW_if.2 celse.1, celse.2⟩ hp.1, endF_none], World.grownBy.trans (grown_drew (World.grownBy.trans (World.grownBy.trans (grown_refl w _) f1_11) gt37) d38) hp.2⟩; exact oneZ_panic (fun _ => (show Pan oddCh (fun v w' => OneT ws n b w v w') (fun w' => readA ws n = none ∧ w.grownBy w' (some b)) (.panicked oddCh) wp from Pan.pan hU))) ?_
       rintro _ woy ⟨ky, opy, nmy, evy, asy, my, txy, svy, cssy, hry, rfl, rxy, axy, hty, hRy, goy⟩
       have z_y := goy.size
       have hmy := readA_le hry
       have hgy := readA_gt hry
       refine WO_nil (oneZ_normal ?_)
       refine WZ_only 4 (by kernel_rfl) rfl ?_
       refine WO_bslice (k := 1) (cs := #[(.int .i64 ky), (S nmy), (.int .i64 opy), (S evy), svy]) (e := 39) rfl (fun _ => by kernel_rfl) (fun w39 n39 => ?_)
       have e39 : w39.heap[woy.heap.size]? = some (.cells #[(.int .i64 ky), (S nmy), (.int .i64 opy), (S evy), svy] 39 (0, 0)) := n39.here
       have z39 := n39.size
       have o39 := n39.owned (base := w.heap.size) (size := 5) (k := 1) (by omega) (by omega) rfl
       refine WO_nil (oneZ_normal ?_)
       refine WZ_only 5 (by kernel_rfl) rfl ?_
       have o40a := (n39.owns (World.ownsRow.kept (drew_owns d38 (World.ownsRow.kept k1_4 gt37 (by first | assumption | (right; intro e; have := (k1_4.lt _ e).1; omega) | simp_all))) goy (by first | assumption | (right; intro e; have := (k1_4.lt _ e).1; omega) | simp_all)))
       refine WO_append1 (v := sv) (sz := 5) (base := w.heap.size) (bytes := 72) rfl rfl rfl Tryd.underlying37 (by kernel_rfl) (by decide) o40a rfl e39 (by intro v hv; simp only [List.mem_cons, List.not_mem_nil, or_false] at hv; rcases hv with hv | hv | hv | hv | hv <;> (rw [hv]; first | rfl | exact oneCell_is (rxy.1.ext n39.ext))) (by omega) (by omega) (by omega) (fun a40 w40 o40 g40 y40 => ?_)
       have z40 := g40.size
       have q40_0 : some w.heap.size ≠ Value.ownBlock a40 := by intro e; rcases y40 with y | y <;> rw [y] at e <;> first | (exact absurd e (by assumption)) | (have e2 : w.heap.size = _ := Option.some.inj e; omega) | (have e2 : _ = w.heap.size := Option.some.inj e; omega)
       have q40_1 : some w21.heap.size ≠ Value.ownBlock a40 := by intro e; rcases y40 with y | y <;> rw [y] at e <;> first | (exact absurd e (by assumption)) | (have e2 : w21.heap.size = _ := Option.some.inj e; omega) | (have e2 : _ = w21.heap.size := Option.some.inj e; omega)
       refine WO_nil (oneZ_normal ?_)
       refine WZ_take 6 rfl (by kernel_rfl) (by kernel_rfl) (by kernel_rfl) rfl (v := (.pointer (some ⟨w21.heap.size, 4, none⟩))) (fun _ => by kernel_rfl) ?_
       refine WZ_only 7 (by kernel_rfl) rfl ?_
       have p41 := (grown_keep g40 (n39.keep (grown_keep goy (drew_keep d38 (grown_keep gt37 k1_2 (by first | assumption | omega | (intro e; have e2 := Option.some.inj e; omega) | (simp; omega)))) (by first | assumption | omega | (intro e; have e2 := Option.some.inj e; omega) | (simp; omega)))) (by first | assumption | omega | (simp; omega)))
       refine WO_store (b := w21.heap.size) (o := 4) (v := a40) rfl rfl rfl (fun _ => by kernel_rfl) (oneC_owned o40) p41 (by simp) (fun w41 u41 => ?_)
       have e41 : w41.heap[w21.heap.size]? = some (.cells #[(.int .i64 (zIdx wordsL (atW ws ma) 0)), (S []), (.int .i64 0), (S []), a40] 39 (0, 0)) := u41.here
       have z41 := u41.size
       refine WO_nil (oneZ_normal ?_)
       refine WZ_done (by kernel_rfl) ?_
       refine W_seq ?_
       refine W_reg ?_
       refine WO_pure (v := (.pointer (some ⟨b, 0, none⟩))) rfl rfl ?_
       refine WO_call rfl (by exact en_48) (takeR_any ws my b txy _ (u41.keep (grown_keep g40 (n39.keep hty) (cell_ne_own o40a (n39.keep hty) (by decide))) (heap_ne (grown_keep g40 (n39.keep hty) (cell_ne_own o40a (n39.keep hty) (by decide))) p41 (by decide))) hRy) ?_
       rintro _ wt42 ⟨rfl, tx42, ht42, hr42, gt42⟩
       have z_t42 := gt42.size
       refine WO_seql (l1 := (atW ws my)) (l2 := [41]) rfl rfl rfl ?_
       refine WO_callp rfl (by exact en_36) (need_any (decide ((atW ws my) = [41])) _) (by rintro wp ⟨e_ok, rfl⟩; have hU : readA ws n = none ∧ w.grownBy wt42 (some b) := ⟨by rw [readA_step hw, hra, restF_end hkw (by rw [f1_1]; exact argsF_stop f1_2 ckw), elseF_more ⟨kindW_if.2 celse.1, celse.2⟩ hry, endF_no (by simpa using e_ok)], (World.grownBy.trans (grown_upd (grown_own (grown_new (World.grownBy.trans (grown_drew (World.grownBy.trans (World.grownBy.trans (grown_refl w _) f1_11) gt37) d38) goy) n39) g40 (own_block_ge o40a)) u41 (by first | (left; omega) | (right; rfl))) gt42)⟩; exact (show Pan oddCh (fun v w' => OneT ws n b w v w') (fun w' => readA ws n = none ∧ w.grownBy w' (some b)) (.panicked oddCh) wt42 from Pan.pan hU)) ?_
       rintro _ _ ⟨e_ok, rfl, rfl⟩
       refine WO_nil ?_
       refine W_seq ?_
       refine W_reg ?_
       refine WO_loadrow (b := w21.heap.size) (o := 0) (m := 5) (c := #[(.int .i64 (zIdx wordsL (atW ws ma) 0)), (S []), (.int .i64 0), (S []), a40]) rfl rfl Tryd.underlying39 rfl (fun _ => by kernel_rfl) (grown_keep gt42 e41 (by first | assumption | omega | (intro e; have e2 := Option.some.inj e; omega) | (simp; omega))) (by simp) ?_
       refine WO_eq 102 (v' := (.agg #[(.int .i64 (zIdx wordsL (atW ws ma) 0)), (S []), (.int .i64 0), (S []), a40])) rfl rfl ?_
       have p43 := (grown_keep gt42 (u41.keep (grown_keep g40 (n39.keep (grown_keep goy (drew_keep d38 (grown_keep gt37 k1_1 (by first | assumption | omega | (intro e; have e2 := Option.some.inj e; omega) | (simp; omega)))) (by first | assumption | omega | (intro e; have e2 := Option.some.inj e; omega) | (simp; omega)))) (by first | assumption | omega | (simp; omega))) (by first | assumption | omega | (simp; omega))) (by first | assumption | omega | (intro e; have e2 := Option.some.inj e; omega) | (simp; omega)))
       refine WO_storerow (b := w.heap.size) (o := 0) (c' := #[(.int .i64 (zIdx wordsL (atW ws ma) 0)), (S []), (.int .i64 0), (S []), a40]) rfl rfl rfl (fun _ => by kernel_rfl) (by rw [Array.all_eq_true_iff_forall_mem]; intro v hv; simp only [List.mem_toArray, List.mem_cons, List.not_mem_nil, or_false] at hv; rcases hv with hv | hv | hv | hv | hv <;> (rw [hv]; first | rfl | exact oneCell_owned (World.ownsRow.kept (u41.owns o40 (by first | assumption | (exact Ne.symm (by assumption)) | (simp_all; done) | (intro e; have := (o40.lt _ e).2; omega))) gt42 (by first | assumption | (right; intro e; have := (o40.lt _ e).1; omega) | simp_all)))) p43 (by simp) (fun w43 u43 => ?_)
       have e43 : w43.heap[w.heap.size]? = some (.cells #[(.int .i64 (zIdx wordsL (atW ws ma) 0)), (S []), (.int .i64 0), (S []), a40] 39 (0, 0)) := u43.here
       have z43 := u43.size
       refine WO_nil ?_
       refine W_ret ?_
       refine body_retpc1 (b := w.heap.size) (c := #[(.int .i64 (zIdx wordsL (atW ws ma) 0)), (S []), (.int .i64 0), (S []), a40]) rfl rfl Tryd.underlying39 rfl (fun _ => by kernel_rfl) e43 ?_
       have ha : argsF (readA ws) ws (atW ws ma) (ws.length + 1) [(DepT.mk ka nma opa eva asa)] ma = some (args, nn) := by rw [f1_1]; exact argsF_stop f1_2 ckw
       refine ⟨_, _, _, _, (args ++ [(DepT.mk ky nmy opy evy asy)]), (my + 1), _, _, (css ++ [[.int .i64 ky, S nmy, .int .i64 opy, S evy, svy]]), by rw [readA_step hw, hra, restF_end hkw ha, elseF_more ⟨kindW_if.2 celse.1, celse.2⟩ hry, endF_yes (by simpa using e_ok), ← hkk], rfl, RowX.owned (xs := (css ++ [[.int .i64 ky, S nmy, .int .i64 opy, S evy, svy]]).flatten) (by simpa using (u43.owns (World.ownsRow.kept (u41.owns o40 (by first | assumption | (exact Ne.symm (by assumption)) | (simp_all; done) | (intro e; have := (o40.lt _ e).2; omega))) gt42 (by first | assumption | (right; intro e; have := (o40.lt _ e).1; omega) | simp_all)) (by first | assumption | (exact Ne.symm (by assumption)) | (simp_all; done) | (intro e; have := (o40.lt _ e).2; omega)))) (fun k _ h => h), ArgsX.snoc (DepX.intro (RowX.go rxy (fun b' hb' hp => by change _ ≤ b' at hp; exact ⟨by omega, ((u43.block b' (by first | assumption | omega | (intro e; have e2 := Option.some.inj e; omega) | (intro e; have := (hbo _ e.symm).2; omega) | (intro e; simp_all; done) | (intro e; simp_all; omega))).trans ((gt42.block b' (by omega) (by first | assumption | omega | (intro e; have e2 := Option.some.inj e; omega) | (intro e; have := (hbo _ e.symm).2; omega) | (intro e; simp_all; done) | (intro e; simp_all; omega))).trans ((u41.block b' (by first | assumption | omega | (intro e; have e2 := Option.some.inj e; omega) | (intro e; have := (hbo _ e.symm).2; omega) | (intro e; simp_all; done) | (intro e; simp_all; omega))).trans ((g40.block b' (by omega) (by first | assumption | omega | (intro e; have e2 := Option.some.inj e; omega) | (intro e; have := (hbo _ e.symm).2; omega) | (intro e; have := ((o40a).lt _ e.symm).2; omega) | (intro e; simp_all; done) | (intro e; simp_all; omega))).trans (n39.ext.block b' (by omega))))))⟩) (by omega)) (ArgsX.go (fun b' hb' hp => by change _ ≤ b' at hp; exact ⟨by omega, ((u43.block b' (by first | assumption | omega | (intro e; have e2 := Option.some.inj e; omega) | (intro e; have := (hbo _ e.symm).2; omega) | (intro e; simp_all; done) | (intro e; simp_all; omega))).trans ((gt42.block b' (by omega) (by first | assumption | omega | (intro e; have e2 := Option.some.inj e; omega) | (intro e; have := (hbo _ e.symm).2; omega) | (intro e; simp_all; done) | (intro e; simp_all; omega))).trans ((u41.block b' (by first | assumption | omega | (intro e; have e2 := Option.some.inj e; omega) | (intro e; have := (hbo _ e.symm).2; omega) | (intro e; simp_all; done) | (intro e; simp_all; omega))).trans ((g40.block b' (by omega) (by first | assumption | omega | (intro e; have e2 := Option.some.inj e; omega) | (intro e; have := (hbo _ e.symm).2; omega) | (intro e; have := ((o40a).lt _ e.symm).2; omega) | (intro e; simp_all; done) | (intro e; simp_all; omega))).trans (n39.ext.block b' (by omega))))))⟩) (by omega) _ _ axy)) (ArgsX.go (fun b' hb' hp => by obtain ⟨hp1, hp2, hp3⟩ := hp; exact ⟨by omega, ((u43.block b' (by first | assumption | omega | (intro e; have e2 := Option.some.inj e; omega) | (intro e; have := (hbo _ e.symm).2; omega) | (intro e; simp_all; done) | (intro e; simp_all; omega))).trans ((gt42.block b' (by omega) (by first | assumption | omega | (intro e; have e2 := Option.some.inj e; omega) | (intro e; have := (hbo _ e.symm).2; omega) | (intro e; simp_all; done) | (intro e; simp_all; omega))).trans ((u41.block b' (by first | assumption | omega | (intro e; have e2 := Option.some.inj e; omega) | (intro e; have := (hbo _ e.symm).2; omega) | (intro e; simp_all; done) | (intro e; simp_all; omega))).trans ((g40.block b' (by omega) (by first | assumption | omega | (intro e; have e2 := Option.some.inj e; omega) | (intro e; have := (hbo _ e.symm).2; omega) | (intro e; have := ((o40a).lt _ e.symm).2; omega) | (intro e; simp_all; done) | (intro e; simp_all; omega))).trans ((n39.ext.block b' (by omega)).trans ((goy.block b' (by omega) (by first | assumption | omega | (intro e; have e2 := Option.some.inj e; omega) | (intro e; have := (hbo _ e.symm).2; omega) | (intro e; simp_all; done) | (intro e; simp_all; omega))).trans ((d38.ext.block b' (by omega)).trans (gt37.block b' (by omega) (by first | assumption | omega | (intro e; have e2 := Option.some.inj e; omega) | (intro e; have := (hbo _ e.symm).2; omega) | (intro e; simp_all; done) | (intro e; simp_all; omega))))))))))⟩) (by omega) _ _ f1_7), (u43.keep ht42 (heap_ne ht42 p43 (by decide))), hr42, (grown_upd (World.grownBy.trans (grown_upd (grown_own (grown_new (World.grownBy.trans (grown_drew (World.grownBy.trans (World.grownBy.trans (grown_refl w _) f1_11) gt37) d38) goy) n39) g40 (own_block_ge o40a)) u41 (by first | (left; omega) | (right; rfl))) gt42) u43 (by first | (left; omega) | (right; rfl)))⟩
      ·refine WO_callp rfl (by exact en_35) (ih (nn + 1) (by omega) (by omega) b tx37 _ (drew_keep d38 ht37) hr37) (by rintro wp hp; have hU : readA ws n = none ∧ w.grownBy wp (some b) := ⟨by rw [readA_step hw, hra, restF_end hkw (by rw [f1_1]; exact argsF_stop f1_2 ckw), elseF_fail ⟨kindW_if.2 celse.1, celse.2⟩ hp.1, endF_none], World.grownBy.trans (grown_drew (World.grownBy.trans (World.grownBy.trans (grown_refl w _) f1_11) gt37) d38) hp.2⟩; exact oneZ_panic (fun _ => (show Pan oddCh (fun v w' => OneT ws n b w v w') (fun w' => readA ws n = none ∧ w.grownBy w' (some b)) (.panicked oddCh) wp from Pan.pan hU))) ?_
       rintro _ woy ⟨ky, opy, nmy, evy, asy, my, txy, svy, cssy, hry, rfl, rxy, axy, hty, hRy, goy⟩
       have z_y := goy.size
       have hmy := readA_le hry
       have hgy := readA_gt hry
       refine WO_nil (oneZ_normal ?_)
       refine WZ_two 1 4 (by kernel_rfl) rfl rfl ?_ ?_
       ·refine WO_load (a := ⟨w21.heap.size, 4, none⟩) (v := sv) rfl rfl Tryd.underlying37 rfl (cell_of (grown_keep goy (drew_keep d38 (grown_keep gt37 k1_2 (by first | assumption | omega | (intro e; have e2 := Option.some.inj e; omega) | (simp; omega)))) (by first | assumption | omega | (intro e; have e2 := Option.some.inj e; omega) | (simp; omega))) rfl) ?_
        refine WO_nil (oneZ_normal ?_)
        refine WZ_only 4 (by kernel_rfl) rfl ?_
        refine WO_bslice (k := 1) (cs := #[(.int .i64 ky), (S nmy), (.int .i64 opy), (S evy), svy]) (e := 39) rfl (fun _ => by kernel_rfl) (fun w44 n44 => ?_)
        have e44 : w44.heap[woy.heap.size]? = some (.cells #[(.int .i64 ky), (S nmy), (.int .i64 opy), (S evy), svy] 39 (0, 0)) := n44.here
        have z44 := n44.size
        have o44 := n44.owned (base := w.heap.size) (size := 5) (k := 1) (by omega) (by omega) rfl
        refine WO_nil (oneZ_normal ?_)
        refine WZ_only 5 (by kernel_rfl) rfl ?_
        have o45a := (n44.owns (World.ownsRow.kept (drew_owns d38 (World.ownsRow.kept k1_4 gt37 (by first | assumption | (right; intro e; have := (k1_4.lt _ e).1; omega) | simp_all))) goy (by first | assumption | (right; intro e; have := (k1_4.lt _ e).1; omega) | simp_all)))
        refine WO_append1 (v := sv) (sz := 5) (base := w.heap.size) (bytes := 72) rfl rfl rfl Tryd.underlying37 (by kernel_rfl) (by decide) o45a rfl e44 (by intro v hv; simp only [List.mem_cons, List.not_mem_nil, or_false] at hv; rcases hv with hv | hv | hv | hv | hv <;> (rw [hv]; first | rfl | exact oneCell_is (rxy.1.ext n44.ext))) (by omega) (by omega) (by omega) (fun a45 w45 o45 g45 y45 => ?_)
        have z45 := g45.size
        have q45_0 : some w.heap.size ≠ Value.ownBlock a45 := by intro e; rcases y45 with y | y <;> rw [y] at e <;> first | (exact absurd e (by assumption)) | (have e2 : w.heap.size = _ := Option.some.inj e; omega) | (have e2 : _ = w.heap.size := Option.some.inj e; omega)
        have q45_1 : some w21.heap.size ≠ Value.ownBlock a45 := by intro e; rcases y45 with y | y <;> rw [y] at e <;> first | (exact absurd e (by assumption)) | (have e2 : w21.heap.size = _ := Option.some.inj e; omega) | (have e2 : _ = w21.heap.size := Option.some.inj e; omega)
        refine WO_nil (oneZ_normal ?_)
        refine WZ_take 6 rfl (by kernel_rfl) (by kernel_rfl) (by kernel_rfl) rfl (v := (.pointer (some ⟨w21.heap.size, 4, none⟩))) (fun _ => by kernel_rfl) ?_
        refine WZ_only 7 (by kernel_rfl) rfl ?_
        have p46 := (grown_keep g45 (n44.keep (grown_keep goy (drew_keep d38 (grown_keep gt37 k1_2 (by first | assumption | omega | (intro e; have e2 := Option.some.inj e; omega) | (simp; omega)))) (by first | assumption | omega | (intro e; have e2 := Option.some.inj e; omega) | (simp; omega)))) (by first | assumption | omega | (simp; omega)))
        refine WO_store (b := w21.heap.size) (o := 4) (v := a45) rfl rfl rfl (fun _ => by kernel_rfl) (oneC_owned o45) p46 (by simp) (fun w46 u46 => ?_)
        have e46 : w46.heap[w21.heap.size]? = some (.cells #[(.int .i64 (zIdx wordsL (atW ws ma) 0)), (S []), (.int .i64 0), (S []), a45] 39 (0, 0)) := u46.here
        have z46 := u46.size
        refine WO_nil (oneZ_normal ?_)
        refine WZ_done (by kernel_rfl) ?_
        refine W_seq ?_
        refine W_reg ?_
        refine WO_pure (v := (.pointer (some ⟨b, 0, none⟩))) rfl rfl ?_
        refine WO_call rfl (by exact en_48) (takeR_any ws my b txy _ (u46.keep (grown_keep g45 (n44.keep hty) (cell_ne_own o45a (n44.keep hty) (by decide))) (heap_ne (grown_keep g45 (n44.keep hty) (cell_ne_own o45a (n44.keep hty) (by decide))) p46 (by decide))) hRy) ?_
        rintro _ wt47 ⟨rfl, tx47, ht47, hr47, gt47⟩
        have z_t47 := gt47.size
        refine WO_seql (l1 := (atW ws my)) (l2 := [41]) rfl rfl rfl ?_
        refine WO_callp rfl (by exact en_36) (need_any (decide ((atW ws my) = [41])) _) (by rintro wp ⟨e_ok, rfl⟩; have hU : readA ws n = none ∧ w.grownBy wt47 (some b) := ⟨by rw [readA_step hw, hra, restF_end hkw (by rw [f1_1]; exact argsF_stop f1_2 ckw), elseF_more ⟨kindW_if.2 celse.1, celse.2⟩ hry, endF_no (by simpa using e_ok)], (World.grownBy.trans (grown_upd (grown_own (grown_new (World.grownBy.trans (grown_drew (World.grownBy.trans (World.grownBy.trans (grown_refl w _) f1_11) gt37) d38) goy) n44) g45 (own_block_ge o45a)) u46 (by first | (left; omega) | (right; rfl))) gt47)⟩; exact (show Pan oddCh (fun v w' => OneT ws n b w v w') (fun w' => readA ws n = none ∧ w.grownBy w' (some b)) (.panicked oddCh) wt47 from Pan.pan hU)) ?_
        rintro _ _ ⟨e_ok, rfl, rfl⟩
        refine WO_nil ?_
        refine W_seq ?_
        refine W_reg ?_
        refine WO_loadrow (b := w21.heap.size) (o := 0) (m := 5) (c := #[(.int .i64 (zIdx wordsL (atW ws ma) 0)), (S []), (.int .i64 0), (S []), a45]) rfl rfl Tryd.underlying39 rfl (fun _ => by kernel_rfl) (grown_keep gt47 e46 (by first | assumption | omega | (intro e; have e2 := Option.some.inj e; omega) | (simp; omega))) (by simp) ?_
        refine WO_eq 102 (v' := (.agg #[(.int .i64 (zIdx wordsL (atW ws ma) 0)), (S []), (.int .i64 0), (S []), a45])) rfl rfl ?_
        have p48 := (grown_keep gt47 (u46.keep (grown_keep g45 (n44.keep (grown_keep goy (drew_keep d38 (grown_keep gt37 k1_1 (by first | assumption | omega | (intro e; have e2 := Option.some.inj e; omega) | (simp; omega)))) (by first | assumption | omega | (intro e; have e2 := Option.some.inj e; omega) | (simp; omega)))) (by first | assumption | omega | (simp; omega))) (by first | assumption | omega | (simp; omega))) (by first | assumption | omega | (intro e; have e2 := Option.some.inj e; omega) | (simp; omega)))
        refine WO_storerow (b := w.heap.size) (o := 0) (c' := #[(.int .i64 (zIdx wordsL (atW ws ma) 0)), (S []), (.int .i64 0), (S []), a45]) rfl rfl rfl (fun _ => by kernel_rfl) (by rw [Array.all_eq_true_iff_forall_mem]; intro v hv; simp only [List.mem_toArray, List.mem_cons, List.not_mem_nil, or_false] at hv; rcases hv with hv | hv | hv | hv | hv <;> (rw [hv]; first | rfl | exact oneCell_owned (World.ownsRow.kept (u46.owns o45 (by first | assumption | (exact Ne.symm (by assumption)) | (simp_all; done) | (intro e; have := (o45.lt _ e).2; omega))) gt47 (by first | assumption | (right; intro e; have := (o45.lt _ e).1; omega) | simp_all)))) p48 (by simp) (fun w48 u48 => ?_)
        have e48 : w48.heap[w.heap.size]? = some (.cells #[(.int .i64 (zIdx wordsL (atW ws ma) 0)), (S []), (.int .i64 0), (S []), a45] 39 (0, 0)) := u48.here
        have z48 := u48.size
        refine WO_nil ?_
        refine W_ret ?_
        refine body_retpc1 (b := w.heap.size) (c := #[(.int .i64 (zIdx wordsL (atW ws ma) 0)), (S []), (.int .i64 0), (S []), a45]) rfl rfl Tryd.underlying39 rfl (fun _ => by kernel_rfl) e48 ?_
        have ha : argsF (readA ws) ws (atW ws ma) (ws.length + 1) [(DepT.mk ka nma opa eva asa)] ma = some (args, nn) := by rw [f1_1]; exact argsF_stop f1_2 ckw
        refine ⟨_, _, _, _, (args ++ [(DepT.mk ky nmy opy evy asy)]), (my + 1), _, _, (css ++ [[.int .i64 ky, S nmy, .int .i64 opy, S evy, svy]]), by rw [readA_step hw, hra, restF_end hkw ha, elseF_more ⟨kindW_if.2 celse.1, celse.2⟩ hry, endF_yes (by simpa using e_ok), ← hkk], rfl, RowX.owned (xs := (css ++ [[.int .i64 ky, S nmy, .int .i64 opy, S evy, svy]]).flatten) (by simpa using (u48.owns (World.ownsRow.kept (u46.owns o45 (by first | assumption | (exact Ne.symm (by assumption)) | (simp_all; done) | (intro e; have := (o45.lt _ e).2; omega))) gt47 (by first | assumption | (right; intro e; have := (o45.lt _ e).1; omega) | simp_all)) (by first | assumption | (exact Ne.symm (by assumption)) | (simp_all; done) | (intro e; have := (o45.lt _ e).2; omega)))) (fun k _ h => h), ArgsX.snoc (DepX.intro (RowX.go rxy (fun b' hb' hp => by change _ ≤ b' at hp; exact ⟨by omega, ((u48.block b' (by first | assumption | omega | (intro e; have e2 := Option.some.inj e; omega) | (intro e; have := (hbo _ e.symm).2; omega) | (intro e; simp_all; done) | (intro e; simp_all; omega))).trans ((gt47.block b' (by omega) (by first | assumption | omega | (intro e; have e2 := Option.some.inj e; omega) | (intro e; have := (hbo _ e.symm).2; omega) | (intro e; simp_all; done) | (intro e; simp_all; omega))).trans ((u46.block b' (by first | assumption | omega | (intro e; have e2 := Option.some.inj e; omega) | (intro e; have := (hbo _ e.symm).2; omega) | (intro e; simp_all; done) | (intro e; simp_all; omega))).trans ((g45.block b' (by omega) (by first | assumption | omega | (intro e; have e2 := Option.some.inj e; omega) | (intro e; have := (hbo _ e.symm).2; omega) | (intro e; have := ((o45a).lt _ e.symm).2; omega) | (intro e; simp_all; done) | (intro e; simp_all; omega))).trans (n44.ext.block b' (by omega))))))⟩) (by omega)) (ArgsX.go (fun b' hb' hp => by change _ ≤ b' at hp; exact ⟨by omega, ((u48.block b' (by first | assumption | omega | (intro e; have e2 := Option.some.inj e; omega) | (intro e; have := (hbo _ e.symm).2; omega) | (intro e; simp_all; done) | (intro e; simp_all; omega))).trans ((gt47.block b' (by omega) (by first | assumption | omega | (intro e; have e2 := Option.some.inj e; omega) | (intro e; have := (hbo _ e.symm).2; omega) | (intro e; simp_all; done) | (intro e; simp_all; omega))).trans ((u46.block b' (by first | assumption | omega | (intro e; have e2 := Option.some.inj e; omega) | (intro e; have := (hbo _ e.symm).2; omega) | (intro e; simp_all; done) | (intro e; simp_all; omega))).trans ((g45.block b' (by omega) (by first | assumption | omega | (intro e; have e2 := Option.some.inj e; omega) | (intro e; have := (hbo _ e.symm).2; omega) | (intro e; have := ((o45a).lt _ e.symm).2; omega) | (intro e; simp_all; done) | (intro e; simp_all; omega))).trans (n44.ext.block b' (by omega))))))⟩) (by omega) _ _ axy)) (ArgsX.go (fun b' hb' hp => by obtain ⟨hp1, hp2, hp3⟩ := hp; exact ⟨by omega, ((u48.block b' (by first | assumption | omega | (intro e; have e2 := Option.some.inj e; omega) | (intro e; have := (hbo _ e.symm).2; omega) | (intro e; simp_all; done) | (intro e; simp_all; omega))).trans ((gt47.block b' (by omega) (by first | assumption | omega | (intro e; have e2 := Option.some.inj e; omega) | (intro e; have := (hbo _ e.symm).2; omega) | (intro e; simp_all; done) | (intro e; simp_all; omega))).trans ((u46.block b' (by first | assumption | omega | (intro e; have e2 := Option.some.inj e; omega) | (intro e; have := (hbo _ e.symm).2; omega) | (intro e; simp_all; done) | (intro e; simp_all; omega))).trans ((g45.block b' (by omega) (by first | assumption | omega | (intro e; have e2 := Option.some.inj e; omega) | (intro e; have := (hbo _ e.symm).2; omega) | (intro e; have := ((o45a).lt _ e.symm).2; omega) | (intro e; simp_all; done) | (intro e; simp_all; omega))).trans ((n44.ext.block b' (by omega)).trans ((goy.block b' (by omega) (by first | assumption | omega | (intro e; have e2 := Option.some.inj e; omega) | (intro e; have := (hbo _ e.symm).2; omega) | (intro e; simp_all; done) | (intro e; simp_all; omega))).trans ((d38.ext.block b' (by omega)).trans (gt37.block b' (by omega) (by first | assumption | omega | (intro e; have e2 := Option.some.inj e; omega) | (intro e; have := (hbo _ e.symm).2; omega) | (intro e; simp_all; done) | (intro e; simp_all; omega))))))))))⟩) (by omega) _ _ f1_7), (u48.keep ht47 (heap_ne ht47 p48 (by decide))), hr47, (grown_upd (World.grownBy.trans (grown_upd (grown_own (grown_new (World.grownBy.trans (grown_drew (World.grownBy.trans (World.grownBy.trans (grown_refl w _) f1_11) gt37) d38) goy) n44) g45 (own_block_ge o45a)) u46 (by first | (left; omega) | (right; rfl))) gt47) u48 (by first | (left; omega) | (right; rfl)))⟩
       ·refine WO_bslice (k := 1) (cs := #[(.int .i64 ky), (S nmy), (.int .i64 opy), (S evy), svy]) (e := 39) rfl (fun _ => by kernel_rfl) (fun w49 n49 => ?_)
        have e49 : w49.heap[woy.heap.size]? = some (.cells #[(.int .i64 ky), (S nmy), (.int .i64 opy), (S evy), svy] 39 (0, 0)) := n49.here
        have z49 := n49.size
        have o49 := n49.owned (base := w.heap.size) (size := 5) (k := 1) (by omega) (by omega) rfl
        refine WO_nil (oneZ_normal ?_)
        refine WZ_only 1 (by kernel_rfl) rfl ?_
        refine WO_load (a := ⟨w21.heap.size, 4, none⟩) (v := sv) rfl rfl Tryd.underlying37 rfl (cell_of (n49.keep (grown_keep goy (drew_keep d38 (grown_keep gt37 k1_2 (by first | assumption | omega | (intro e; have e2 := Option.some.inj e; omega) | (simp; omega)))) (by first | assumption | omega | (intro e; have e2 := Option.some.inj e; omega) | (simp; omega)))) rfl) ?_
        refine WO_nil (oneZ_normal ?_)
        refine WZ_only 5 (by kernel_rfl) rfl ?_
        have o50a := (n49.owns (World.ownsRow.kept (drew_owns d38 (World.ownsRow.kept k1_4 gt37 (by first | assumption | (right; intro e; have := (k1_4.lt _ e).1; omega) | simp_all))) goy (by first | assumption | (right; intro e; have := (k1_4.lt _ e).1; omega) | simp_all)))
        refine WO_append1 (v := sv) (sz := 5) (base := w.heap.size) (bytes := 72) rfl rfl rfl Tryd.underlying37 (by kernel_rfl) (by decide) o50a rfl e49 (by intro v hv; simp only [List.mem_cons, List.not_mem_nil, or_false] at hv; rcases hv with hv | hv | hv | hv | hv <;> (rw [hv]; first | rfl | exact oneCell_is (rxy.1.ext n49.ext))) (by omega) (by omega) (by omega) (fun a50 w50 o50 g50 y50 => ?_)
        have z50 := g50.size
        have q50_0 : some w.heap.size ≠ Value.ownBlock a50 := by intro e; rcases y50 with y | y <;> rw [y] at e <;> first | (exact absurd e (by assumption)) | (have e2 : w.heap.size = _ := Option.some.inj e; omega) | (have e2 : _ = w.heap.size := Option.some.inj e; omega)
        have q50_1 : some w21.heap.size ≠ Value.ownBlock a50 := by intro e; rcases y50 with y | y <;> rw [y] at e <;> first | (exact absurd e (by assumption)) | (have e2 : w21.heap.size = _ := Option.some.inj e; omega) | (have e2 : _ = w21.heap.size := Option.some.inj e; omega)
        refine WO_nil (oneZ_normal ?_)
        refine WZ_take 6 rfl (by kernel_rfl) (by kernel_rfl) (by kernel_rfl) rfl (v := (.pointer (some ⟨w21.heap.size, 4, none⟩))) (fun _ => by kernel_rfl) ?_
        refine WZ_only 7 (by kernel_rfl) rfl ?_
        have p51 := (grown_keep g50 (n49.keep (grown_keep goy (drew_keep d38 (grown_keep gt37 k1_2 (by first | assumption | omega | (intro e; have e2 := Option.some.inj e; omega) | (simp; omega)))) (by first | assumption | omega | (intro e; have e2 := Option.some.inj e; omega) | (simp; omega)))) (by first | assumption | omega | (simp; omega)))
        refine WO_store (b := w21.heap.size) (o := 4) (v := a50) rfl rfl rfl (fun _ => by kernel_rfl) (oneC_owned o50) p51 (by simp) (fun w51 u51 => ?_)
        have e51 : w51.heap[w21.heap.size]? = some (.cells #[(.int .i64 (zIdx wordsL (atW ws ma) 0)), (S []), (.int .i64 0), (S []), a50] 39 (0, 0)) := u51.here
        have z51 := u51.size
        refine WO_nil (oneZ_normal ?_)
        refine WZ_done (by kernel_rfl) ?_
        refine W_seq ?_
        refine W_reg ?_
        refine WO_pure (v := (.pointer (some ⟨b, 0, none⟩))) rfl rfl ?_
        refine WO_call rfl (by exact en_48) (takeR_any ws my b txy _ (u51.keep (grown_keep g50 (n49.keep hty) (cell_ne_own o50a (n49.keep hty) (by decide))) (heap_ne (grown_keep g50 (n49.keep hty) (cell_ne_own o50a (n49.keep hty) (by decide))) p51 (by decide))) hRy) ?_
        rintro _ wt52 ⟨rfl, tx52, ht52, hr52, gt52⟩
        have z_t52 := gt52.size
        refine WO_seql (l1 := (atW ws my)) (l2 := [41]) rfl rfl rfl ?_
        refine WO_callp rfl (by exact en_36) (need_any (decide ((atW ws my) = [41])) _) (by rintro wp ⟨e_ok, rfl⟩; have hU : readA ws n = none ∧ w.grownBy wt52 (some b) := ⟨by rw [readA_step hw, hra, restF_end hkw (by rw [f1_1]; exact argsF_stop f1_2 ckw), elseF_more ⟨kindW_if.2 celse.1, celse.2⟩ hry, endF_no (by simpa using e_ok)], (World.grownBy.trans (grown_upd (grown_own (grown_new (World.grownBy.trans (grown_drew (World.grownBy.trans (World.grownBy.trans (grown_refl w _) f1_11) gt37) d38) goy) n49) g50 (own_block_ge o50a)) u51 (by first | (left; omega) | (right; rfl))) gt52)⟩; exact (show Pan oddCh (fun v w' => OneT ws n b w v w') (fun w' => readA ws n = none ∧ w.grownBy w' (some b)) (.panicked oddCh) wt52 from Pan.pan hU)) ?_
        rintro _ _ ⟨e_ok, rfl, rfl⟩
        refine WO_nil ?_
        refine W_seq ?_
        refine W_reg ?_
        refine WO_loadrow (b := w21.heap.size) (o := 0) (m := 5) (c := #[(.int .i64 (zIdx wordsL (atW ws ma) 0)), (S []), (.int .i64 0), (S []), a50]) rfl rfl Tryd.underlying39 rfl (fun _ => by kernel_rfl) (grown_keep gt52 e51 (by first | assumption | omega | (intro e; have e2 := Option.some.inj e; omega) | (simp; omega))) (by simp) ?_
        refine WO_eq 102 (v' := (.agg #[(.int .i64 (zIdx wordsL (atW ws ma) 0)), (S []), (.int .i64 0), (S []), a50])) rfl rfl ?_
        have p53 := (grown_keep gt52 (u51.keep (grown_keep g50 (n49.keep (grown_keep goy (drew_keep d38 (grown_keep gt37 k1_1 (by first | assumption | omega | (intro e; have e2 := Option.some.inj e; omega) | (simp; omega)))) (by first | assumption | omega | (intro e; have e2 := Option.some.inj e; omega) | (simp; omega)))) (by first | assumption | omega | (simp; omega))) (by first | assumption | omega | (simp; omega))) (by first | assumption | omega | (intro e; have e2 := Option.some.inj e; omega) | (simp; omega)))
        refine WO_storerow (b := w.heap.size) (o := 0) (c' := #[(.int .i64 (zIdx wordsL (atW ws ma) 0)), (S []), (.int .i64 0), (S []), a50]) rfl rfl rfl (fun _ => by kernel_rfl) (by rw [Array.all_eq_true_iff_forall_mem]; intro v hv; simp only [List.mem_toArray, List.mem_cons, List.not_mem_nil, or_false] at hv; rcases hv with hv | hv | hv | hv | hv <;> (rw [hv]; first | rfl | exact oneCell_owned (World.ownsRow.kept (u51.owns o50 (by first | assumption | (exact Ne.symm (by assumption)) | (simp_all; done) | (intro e; have := (o50.lt _ e).2; omega))) gt52 (by first | assumption | (right; intro e; have := (o50.lt _ e).1; omega) | simp_all)))) p53 (by simp) (fun w53 u53 => ?_)
        have e53 : w53.heap[w.heap.size]? = some (.cells #[(.int .i64 (zIdx wordsL (atW ws ma) 0)), (S []), (.int .i64 0), (S []), a50] 39 (0, 0)) := u53.here
        have z53 := u53.size
        refine WO_nil ?_
        refine W_ret ?_
        refine body_retpc1 (b := w.heap.size) (c := #[(.int .i64 (zIdx wordsL (atW ws ma) 0)), (S []), (.int .i64 0), (S []), a50]) rfl rfl Tryd.underlying39 rfl (fun _ => by kernel_rfl) e53 ?_
        have ha : argsF (readA ws) ws (atW ws ma) (ws.length + 1) [(DepT.mk ka nma opa eva asa)] ma = some (args, nn) := by rw [f1_1]; exact argsF_stop f1_2 ckw
        refine ⟨_, _, _, _, (args ++ [(DepT.mk ky nmy opy evy asy)]), (my + 1), _, _, (css ++ [[.int .i64 ky, S nmy, .int .i64 opy, S evy, svy]]), by rw [readA_step hw, hra, restF_end hkw ha, elseF_more ⟨kindW_if.2 celse.1, celse.2⟩ hry, endF_yes (by simpa using e_ok), ← hkk], rfl, RowX.owned (xs := (css ++ [[.int .i64 ky, S nmy, .int .i64 opy, S evy, svy]]).flatten) (by simpa using (u53.owns (World.ownsRow.kept (u51.owns o50 (by first | assumption | (exact Ne.symm (by assumption)) | (simp_all; done) | (intro e; have := (o50.lt _ e).2; omega))) gt52 (by first | assumption | (right; intro e; have := (o50.lt _ e).1; omega) | simp_all)) (by first | assumption | (exact Ne.symm (by assumption)) | (simp_all; done) | (intro e; have := (o50.lt _ e).2; omega)))) (fun k _ h => h), ArgsX.snoc (DepX.intro (RowX.go rxy (fun b' hb' hp => by change _ ≤ b' at hp; exact ⟨by omega, ((u53.block b' (by first | assumption | omega | (intro e; have e2 := Option.some.inj e; omega) | (intro e; have := (hbo _ e.symm).2; omega) | (intro e; simp_all; done) | (intro e; simp_all; omega))).trans ((gt52.block b' (by omega) (by first | assumption | omega | (intro e; have e2 := Option.some.inj e; omega) | (intro e; have := (hbo _ e.symm).2; omega) | (intro e; simp_all; done) | (intro e; simp_all; omega))).trans ((u51.block b' (by first | assumption | omega | (intro e; have e2 := Option.some.inj e; omega) | (intro e; have := (hbo _ e.symm).2; omega) | (intro e; simp_all; done) | (intro e; simp_all; omega))).trans ((g50.block b' (by omega) (by first | assumption | omega | (intro e; have e2 := Option.some.inj e; omega) | (intro e; have := (hbo _ e.symm).2; omega) | (intro e; have := ((o50a).lt _ e.symm).2; omega) | (intro e; simp_all; done) | (intro e; simp_all; omega))).trans (n49.ext.block b' (by omega))))))⟩) (by omega)) (ArgsX.go (fun b' hb' hp => by change _ ≤ b' at hp; exact ⟨by omega, ((u53.block b' (by first | assumption | omega | (intro e; have e2 := Option.some.inj e; omega) | (intro e; have := (hbo _ e.symm).2; omega) | (intro e; simp_all; done) | (intro e; simp_all; omega))).trans ((gt52.block b' (by omega) (by first | assumption | omega | (intro e; have e2 := Option.some.inj e; omega) | (intro e; have := (hbo _ e.symm).2; omega) | (intro e; simp_all; done) | (intro e; simp_all; omega))).trans ((u51.block b' (by first | assumption | omega | (intro e; have e2 := Option.some.inj e; omega) | (intro e; have := (hbo _ e.symm).2; omega) | (intro e; simp_all; done) | (intro e; simp_all; omega))).trans ((g50.block b' (by omega) (by first | assumption | omega | (intro e; have e2 := Option.some.inj e; omega) | (intro e; have := (hbo _ e.symm).2; omega) | (intro e; have := ((o50a).lt _ e.symm).2; omega) | (intro e; simp_all; done) | (intro e; simp_all; omega))).trans (n49.ext.block b' (by omega))))))⟩) (by omega) _ _ axy)) (ArgsX.go (fun b' hb' hp => by obtain ⟨hp1, hp2, hp3⟩ := hp; exact ⟨by omega, ((u53.block b' (by first | assumption | omega | (intro e; have e2 := Option.some.inj e; omega) | (intro e; have := (hbo _ e.symm).2; omega) | (intro e; simp_all; done) | (intro e; simp_all; omega))).trans ((gt52.block b' (by omega) (by first | assumption | omega | (intro e; have e2 := Option.some.inj e; omega) | (intro e; have := (hbo _ e.symm).2; omega) | (intro e; simp_all; done) | (intro e; simp_all; omega))).trans ((u51.block b' (by first | assumption | omega | (intro e; have e2 := Option.some.inj e; omega) | (intro e; have := (hbo _ e.symm).2; omega) | (intro e; simp_all; done) | (intro e; simp_all; omega))).trans ((g50.block b' (by omega) (by first | assumption | omega | (intro e; have e2 := Option.some.inj e; omega) | (intro e; have := (hbo _ e.symm).2; omega) | (intro e; have := ((o50a).lt _ e.symm).2; omega) | (intro e; simp_all; done) | (intro e; simp_all; omega))).trans ((n49.ext.block b' (by omega)).trans ((goy.block b' (by omega) (by first | assumption | omega | (intro e; have e2 := Option.some.inj e; omega) | (intro e; have := (hbo _ e.symm).2; omega) | (intro e; simp_all; done) | (intro e; simp_all; omega))).trans ((d38.ext.block b' (by omega)).trans (gt37.block b' (by omega) (by first | assumption | omega | (intro e; have e2 := Option.some.inj e; omega) | (intro e; have := (hbo _ e.symm).2; omega) | (intro e; simp_all; done) | (intro e; simp_all; omega))))))))))⟩) (by omega) _ _ f1_7), (u53.keep ht52 (heap_ne ht52 p53 (by decide))), hr52, (grown_upd (World.grownBy.trans (grown_upd (grown_own (grown_new (World.grownBy.trans (grown_drew (World.grownBy.trans (World.grownBy.trans (grown_refl w _) f1_11) gt37) d38) goy) n49) g50 (own_block_ge o50a)) u51 (by first | (left; omega) | (right; rfl))) gt52) u53 (by first | (left; omega) | (right; rfl)))⟩
     ·refine W_skip ?_
      refine W_seq ?_
      refine W_reg ?_
      have ckw := c4
      have celse := c8
      refine WO_pure (v := (.pointer (some ⟨b, 0, none⟩))) rfl rfl ?_
      refine WO_call rfl (by exact en_48) (takeR_any ws nn b tx _ k1_3 f1_10) ?_
      rintro _ wt54 ⟨rfl, tx54, ht54, hr54, gt54⟩
      have z_t54 := gt54.size
      refine WO_seql (l1 := (atW ws nn)) (l2 := [41]) rfl rfl rfl ?_
      refine WO_callp rfl (by exact en_36) (need_any (decide ((atW ws nn) = [41])) _) (by rintro wp ⟨e_ok, rfl⟩; have hU : readA ws n = none ∧ w.grownBy wt54 (some b) := ⟨by rw [readA_step hw, hra, restF_end hkw (by rw [f1_1]; exact argsF_stop f1_2 ckw), elseF_no (fun h => celse ⟨kindW_if.1 h.1, h.2⟩), endF_no (by simpa using e_ok)], (World.grownBy.trans (World.grownBy.trans (grown_refl w _) f1_11) gt54)⟩; exact (show Pan oddCh (fun v w' => OneT ws n b w v w') (fun w' => readA ws n = none ∧ w.grownBy w' (some b)) (.panicked oddCh) wt54 from Pan.pan hU)) ?_
      rintro _ _ ⟨e_ok, rfl, rfl⟩
      refine WO_nil ?_
      refine W_seq ?_
      refine W_reg ?_
      refine WO_loadrow (b := w21.heap.size) (o := 0) (m := 5) (c := #[(.int .i64 (zIdx wordsL (atW ws ma) 0)), (S []), (.int .i64 0), (S []), sv]) rfl rfl Tryd.underlying39 rfl (fun _ => by kernel_rfl) (grown_keep gt54 k1_2 (by first | assumption | omega | (intro e; have e2 := Option.some.inj e; omega) | (simp; omega))) (by simp) ?_
      refine WO_eq 102 (v' := (.agg #[(.int .i64 (zIdx wordsL (atW ws ma) 0)), (S []), (.int .i64 0), (S []), sv])) rfl rfl ?_
      have p55 := (grown_keep gt54 k1_1 (by first | assumption | omega | (intro e; have e2 := Option.some.inj e; omega) | (simp; omega)))
      refine WO_storerow (b := w.heap.size) (o := 0) (c' := #[(.int .i64 (zIdx wordsL (atW ws ma) 0)), (S []), (.int .i64 0), (S []), sv]) rfl rfl rfl (fun _ => by kernel_rfl) (by rw [Array.all_eq_true_iff_forall_mem]; intro v hv; simp only [List.mem_toArray, List.mem_cons, List.not_mem_nil, or_false] at hv; rcases hv with hv | hv | hv | hv | hv <;> (rw [hv]; first | rfl | exact oneCell_owned (World.ownsRow.kept k1_4 gt54 (by first | assumption | (right; intro e; have := (k1_4.lt _ e).1; omega) | simp_all)))) p55 (by simp) (fun w55 u55 => ?_)
      have e55 : w55.heap[w.heap.size]? = some (.cells #[(.int .i64 (zIdx wordsL (atW ws ma) 0)), (S []), (.int .i64 0), (S []), sv] 39 (0, 0)) := u55.here
      have z55 := u55.size
      refine WO_nil ?_
      refine W_ret ?_
      refine body_retpc1 (b := w.heap.size) (c := #[(.int .i64 (zIdx wordsL (atW ws ma) 0)), (S []), (.int .i64 0), (S []), sv]) rfl rfl Tryd.underlying39 rfl (fun _ => by kernel_rfl) e55 ?_
      have ha : argsF (readA ws) ws (atW ws ma) (ws.length + 1) [(DepT.mk ka nma opa eva asa)] ma = some (args, nn) := by rw [f1_1]; exact argsF_stop f1_2 ckw
      refine ⟨_, _, _, _, args, (nn + 1), _, _, css, by rw [readA_step hw, hra, restF_end hkw ha, elseF_no (fun h => celse ⟨kindW_if.1 h.1, h.2⟩), endF_yes (by simpa using e_ok), ← hkk], rfl, RowX.owned (u55.owns (World.ownsRow.kept k1_4 gt54 (by first | assumption | (right; intro e; have := (k1_4.lt _ e).1; omega) | simp_all)) (by first | assumption | (exact Ne.symm (by assumption)) | (simp_all; done) | (intro e; have := (k1_4.lt _ e).2; omega))) (fun k _ h => h), ArgsX.go (fun b' hb' hp => by obtain ⟨hp1, hp2, hp3⟩ := hp; exact ⟨by omega, ((u55.block b' (by first | assumption | omega | (intro e; have e2 := Option.some.inj e; omega) | (intro e; have := (hbo _ e.symm).2; omega) | (intro e; simp_all; done) | (intro e; simp_all; omega))).trans (gt54.block b' (by omega) (by first | assumption | omega | (intro e; have e2 := Option.some.inj e; omega) | (intro e; have := (hbo _ e.symm).2; omega) | (intro e; simp_all; done) | (intro e; simp_all; omega))))⟩) (by omega) _ _ f1_7, (u55.keep ht54 (heap_ne ht54 p55 (by decide))), hr54, (grown_upd (World.grownBy.trans (World.grownBy.trans (grown_refl w _) f1_11) gt54) u55 (by first | (left; omega) | (right; rfl)))⟩
end Go.Proofs.YthhacfehjgfpbaaDoor
end
section
namespace Go.Proofs.YthhacfehjgfpbaaDoor
open Go Go.RowKit
theorem W_any {P : Program} {n : Nat} {c : Code} {Q : Exit → Act → World → Prop} {σ : Nat → Value} {w : World} (h : W P n c (fun e σ w => Q e (mk n σ) w) σ w) : c.wp P Q (mk n σ) w := by
  unfold W at h
  refine wp_mono h ?_
  rintro e a w ⟨σ', rfl, q⟩; exact q
theorem W_top {P : Program} {n : Nat} {x y : Code} {Q : Exit → Act → World → Prop} {σ : Nat → Value} {w : World} (h : W P n x (seqQ (fun σ w => y.wp P Q (mk n σ) w) (fun _ _ _ => False)) σ w) : (Code.seq x y).wp P Q (mk n σ) w := by
  unfold W at h
  refine wp_seq (wp_mono h ?_)
  rintro e a w ⟨σ', rfl, q⟩
  cases e <;> first | exact q | exact q.elim
namespace D
def mk (ds : List Deferred) (n : Nat) (σ : Nat → Value) : Act := { tmps := Array.ofFn (n := n) (fun i => σ i.1), defers := ds }
def lift (ds : List Deferred) (n : Nat) (Q : Exit → (Nat → Value) → World → Prop) : Exit → Act → World → Prop := fun e a w => ∃ σ, a = mk ds n σ ∧ Q e σ w
def W (P : Program) (ds : List Deferred) (n : Nat) (c : Code) (Q : Exit → (Nat → Value) → World → Prop) (σ : Nat → Value) (w : World) : Prop := c.wp P (lift ds n Q) (mk ds n σ) w
def WO (P : Program) (ds : List Deferred) (n : Nat) (ops : Array Oper) (l : List Oper) (Q : Exit → (Nat → Value) → World → Prop) (σ : Nat → Value) (w : World) : Prop :=
  wpList P ops (lift ds n Q) l (mk ds n σ) w
theorem mk_getD (ds : List Deferred) (n : Nat) (σ : Nat → Value) (t : Nat) : (mk ds n σ).tmps.getD t undef = sl n σ t := by
  simp only [mk, sl, Array.getD_eq_getD_getElem?, Array.getElem?_ofFn]
  by_cases h : t < n
  · have : Nat.blt t n = true := by simpa [Nat.blt_eq] using h
    simp [h, this]
  · have : Nat.blt t n = false := by rw [Bool.eq_false_iff]; intro h'; exact h (by simpa [Nat.blt_eq] using h')
    simp [h, this]
theorem mk_eval (ds : List Deferred) (n : Nat) (σ : Nat → Value) : (mk ds n σ).eval = ev n σ := by
  funext x
  cases x with
  | tmp t => exact mk_getD ds n σ t
  | const v => rfl
  | global g => rfl
  | func f => rfl
theorem mk_put (ds : List Deferred) (n : Nat) (σ : Nat → Value) (d : Option Nat) (v : Value) : (mk ds n σ).put d v = mk ds n (updo σ d v) := by
  cases d with
  | none => rfl
  | some d =>
    simp only [mk, Act.put, updo]
    congr 1
    apply Array.ext
    · simp
    · intro i h1 h2
      simp only [Array.getElem_ofFn, upd]
      rw [Array.getElem_setIfInBounds (by simpa using h1)]
      by_cases h : d = i
      · subst h; simp
      · have : Nat.beq i d = false := by rw [Bool.eq_false_iff]; intro h'; exact h (Nat.eq_of_beq_eq_true h').symm
        simp [h, this]
theorem wanted_mk (ops : Array Oper) (ds : List Deferred) (n : Nat) (σ : Nat → Value) (o : Oper) : Region.wanted o (yielded ops (mk ds n σ).tmps) = gOk ops n σ o.guard := Proofs.YthhacfehjgfpbaaDoor.wanted_mk ops n σ o
section
variable {P : Program} {ds : List Deferred} {n : Nat} {Q : Exit → (Nat → Value) → World → Prop} {σ : Nat → Value} {w : World}
theorem W_mono {c : Code} {Q' : Exit → (Nat → Value) → World → Prop} (h : W P ds n c Q σ w) (hq : ∀ e σ w, Q e σ w → Q' e σ w) : W P ds n c Q' σ w :=
  wp_mono h fun _ _ _ ⟨σ', ha, q⟩ => ⟨σ', ha, hq _ _ _ q⟩
theorem W_seq {x y : Code} (h : W P ds n x (seqQ (W P ds n y Q) Q) σ w) : W P ds n (.seq x y) Q σ w := by
  refine wp_seq (wp_mono h ?_)
  rintro e a w ⟨σ', rfl, q⟩
  cases e <;> first | exact q | exact ⟨σ', rfl, q⟩
theorem W_skip (h : Q .normal σ w) : W P ds n .skip Q σ w := wp_skip ⟨σ, rfl, h⟩
theorem W_ret (h : Q .ret σ w) : W P ds n .ret Q σ w := wp_ret ⟨σ, rfl, h⟩
theorem W_cond {c : Operand} {x y : Code} {t : Bool} (hc : ev n σ c = .bool t) (ht : t = true → W P ds n x Q σ w) (hf : t = false → W P ds n y Q σ w) :
    W P ds n (.cond c x y) Q σ w :=
  wp_cond_split (by rw [mk_eval]; exact hc) ht hf
theorem W_true {c : Operand} {x y : Code} (hc : ev n σ c = .bool true) (h : W P ds n x Q σ w) : W P ds n (.cond c x y) Q σ w :=
  wp_cond_true (by rw [mk_eval]; exact hc) h
theorem W_false {c : Operand} {x y : Code} (hc : ev n σ c = .bool false) (h : W P ds n y Q σ w) : W P ds n (.cond c x y) Q σ w :=
  wp_cond_false (by rw [mk_eval]; exact hc) h
theorem W_if {c : Operand} {x y : Code} {p : Prop} [Decidable p] (hc : ev n σ c = .bool (decide p)) (ht : p → W P ds n x Q σ w) (hf : ¬ p → W P ds n y Q σ w) :
    W P ds n (.cond c x y) Q σ w :=
  W_cond hc (fun h => ht (of_decide_eq_true h)) (fun h => hf (of_decide_eq_false h))
theorem W_reg {id : Nat} {l : List Oper} (h : WO P ds n l.toArray l Q σ w) : W P ds n (.region id l.toArray false) Q σ w := wp_region_lit h
theorem WO_nil {ops : Array Oper} (h : Q .normal σ w) : WO P ds n ops [] Q σ w := ⟨σ, rfl, h⟩
theorem WO_val {ops : Array Oper} {o : Oper} {rest : List Oper} {v : Value} {w' : World} (hg : gOk ops n σ o.guard = true)
    (h : (execOp (ev n σ) o).run P w = .ok (.value v) w') (next : WO P ds n ops rest Q (updo σ o.dst v) w') : WO P ds n ops (o :: rest) Q σ w := by
  unfold WO wpList
  rw [wanted_mk, hg, if_pos rfl]
  left
  unfold Oper.wp
  rw [mk_eval, h, Oper.upon_value, mk_put]
  exact next
theorem WO_same {ops : Array Oper} {o : Oper} {rest : List Oper} {v : Value} (hg : gOk ops n σ o.guard = true)
    (h : (execOp (ev n σ) o).run P w = .ok (.value v) w) (next : WO P ds n ops rest Q (updo σ o.dst v) w) : WO P ds n ops (o :: rest) Q σ w := WO_val hg h next
theorem WO_unit {ops : Array Oper} {o : Oper} {rest : List Oper} {w' : World} (hg : gOk ops n σ o.guard = true)
    (h : (execOp (ev n σ) o).run P w = .ok .skip w') (next : WO P ds n ops rest Q (updo σ o.dst undef) w') : WO P ds n ops (o :: rest) Q σ w := by
  unfold WO wpList
  rw [wanted_mk, hg, if_pos rfl]
  left
  unfold Oper.wp
  rw [mk_eval, h, Oper.upon_skip, mk_put]
  exact next
theorem WO_pass {ops : Array Oper} {o : Oper} {rest : List Oper} (hg : gOk ops n σ o.guard = false)
    (next : WO P ds n ops rest Q (updo σ o.dst undef) w) : WO P ds n ops (o :: rest) Q σ w := by
  unfold WO wpList
  rw [wanted_mk, hg, if_neg (by simp)]
  rw [mk_put]
  exact next
theorem WO_enter {ops : Array Oper} {o : Oper} {rest : List Oper} {f : FuncId} {args : Array Value} {w' : World} {R : Ending → World → Prop} (hg : gOk ops n σ o.guard = true)
    (h : (execOp (ev n σ) o).run P w = .ok (.enter f args) w') (hc : Calls P f args w' R)
    (next : ∀ v w'', R (.returned v) w'' → WO P ds n ops rest Q (updo σ o.dst v) w'')
    (nop : ∀ ch w'', R (.panicked ch) w'' → Q (.panic ch) σ w'')
    (noo : ∀ w'', ¬ R .outgrown w'') : WO P ds n ops (o :: rest) Q σ w := by
  unfold WO wpList
  rw [wanted_mk, hg, if_pos rfl]
  left
  unfold Oper.wp
  rw [mk_eval, h, Oper.upon_enter]
  refine hc.mono ?_
  intro e w'' hR
  cases e with
  | returned v => show wpList _ _ _ _ _ _; rw [mk_put]; exact next v w'' hR
  | panicked ch => exact ⟨σ, rfl, nop ch w'' hR⟩
  | outgrown => exact (noo w'' hR).elim
theorem WO_eq {ops : Array Oper} {l : List Oper} (t : Nat) {v v' : Value} (h : σ t = v) (e : v = v') (k : WO P ds n ops l Q (upd σ t v') w) : WO P ds n ops l Q σ w := by
  rw [upd_id (h.trans e)]; exact k
theorem WO_pure {ops : Array Oper} {o : Oper} {rest : List Oper} {v : Value} (hg : gOk ops n σ o.guard = true) (h : pureOp n σ o.op = some v)
    (next : WO P ds n ops rest Q (updo σ o.dst v) w) : WO P ds n ops (o :: rest) Q σ w := WO_val hg (pure_run h) next
theorem W_anchor {c : Code} {d : Nat} {v : Value} (h : σ d = v) (k : W P ds n c Q (upd σ d v) w) : W P ds n c Q σ w := by
  rw [upd_id h]; exact k
theorem WO_call {ops : Array Oper} {rest : List Oper} {f : FuncId} {ar : Array Operand} {ts : Array TypeId} {ty : TypeId} {ps : String} {dst : Option Tmp} {af : Array Edge} {g : Option (Nat × Bool)} {T : Value → World → Prop}
    (hg : gOk ops n σ g = true) (he : Enters P f) (hc : Calls P f (ar.toList.map (ev n σ)).toArray w (Ret T))
    (next : ∀ v w', T v w' → WO P ds n ops rest Q (updo σ dst v) w') :
    WO P ds n ops (⟨dst, .call { callee := .value (.func f), args := ar, argTypes := ts }, ty, ps, af, g⟩ :: rest) Q σ w := by
  refine WO_enter (R := Ret T) (w' := w) (f := f) (args := (ar.toList.map (ev n σ)).toArray) hg ?_ hc ?_ ?_ ?_
  · have : ar.map (ev n σ) = (ar.toList.map (ev n σ)).toArray := by
      apply Array.ext'; simp
    simp only [execOp, resolve, ev, this]
    have := he (List.map (ev n σ) ar.toList).toArray w
    simp [Deferred.ofValue, invoke, go_sem, this]
  · rintro v w'' ⟨v', hv, hT⟩; cases hv; exact next v w'' hT
  · rintro ch w'' ⟨v', hv, hT⟩; cases hv
  · rintro w'' ⟨v', hv, hT⟩; cases hv
theorem WO_seql {ops : Array Oper} {rest : List Oper} {dst : Option Tmp} {x y : Operand} {t t' ty : TypeId} {ps : String} {af : Array Edge} {g : Option (Nat × Bool)} {l1 l2 : List UInt8}
    (hg : gOk ops n σ g = true) (hx : ev n σ x = S l1) (hy : ev n σ y = S l2)
    (next : WO P ds n ops rest Q (updo σ dst ((.bool (decide (l1 = l2))))) w) : WO P ds n ops (⟨dst, .binOp .eql t x y t', ty, ps, af, g⟩ :: rest) Q σ w :=
  WO_val hg (R_seql hx hy) next
theorem WO_sneq {ops : Array Oper} {rest : List Oper} {dst : Option Tmp} {x y : Operand} {t t' ty : TypeId} {ps : String} {af : Array Edge} {g : Option (Nat × Bool)} {l1 l2 : List UInt8}
    (hg : gOk ops n σ g = true) (hx : ev n σ x = S l1) (hy : ev n σ y = S l2)
    (next : WO P ds n ops rest Q (updo σ dst ((.bool (!decide (l1 = l2))))) w) : WO P ds n ops (⟨dst, .binOp .neq t x y t', ty, ps, af, g⟩ :: rest) Q σ w :=
  WO_val hg (R_sneq hx hy) next
theorem WO_callp {ops : Array Oper} {rest : List Oper} {ch : List PanicEntry} {U : World → Prop} {f : FuncId} {ar : Array Operand} {ts : Array TypeId} {ty : TypeId} {ps : String} {dst : Option Tmp} {af : Array Edge} {g : Option (Nat × Bool)} {T : Value → World → Prop}
    (hg : gOk ops n σ g = true) (he : Enters P f) (hc : Calls P f (ar.toList.map (ev n σ)).toArray w (Pan ch T U))
    (pan : ∀ w', U w' → Q (.panic ch) σ w')
    (next : ∀ v w', T v w' → WO P ds n ops rest Q (updo σ dst v) w') :
    WO P ds n ops (⟨dst, .call { callee := .value (.func f), args := ar, argTypes := ts }, ty, ps, af, g⟩ :: rest) Q σ w := by
  refine WO_enter (R := Pan ch T U) (w' := w) (f := f) (args := (ar.toList.map (ev n σ)).toArray) hg ?_ hc ?_ ?_ ?_
  · have : ar.map (ev n σ) = (ar.toList.map (ev n σ)).toArray := by
      apply Array.ext'; simp
    simp only [execOp, resolve, ev, this]
    have := he (List.map (ev n σ) ar.toList).toArray w
    simp [Deferred.ofValue, invoke, go_sem, this]
  · rintro v w'' (⟨v', hv, hT⟩ | ⟨hv, _⟩)
    · cases hv; exact next v w'' hT
    · cases hv
  · rintro ch' w'' (⟨v', hv, hT⟩ | ⟨hv, hU⟩)
    · cases hv
    · cases hv; exact pan w'' hU
  · rintro w'' (⟨v', hv, hT⟩ | ⟨hv, hU⟩) <;> cases hv
end
section
variable {P : Program} {ds : List Deferred} {n : Nat} {Q : Exit → (Nat → Value) → World → Prop} {σ : Nat → Value} {w : World}
variable {ops : Array Oper} {rest : List Oper} {dst : Option Tmp} {ty : TypeId} {ps : String} {af : Array Edge} {g : Option (Nat × Bool)}
theorem WO_box {t : TypeId} {x : Operand} {v : Value} (hg : gOk ops n σ g = true) (hx : ev n σ x = v)
    (next : ∀ w', New w w' (.cells v.cells t) → WO P ds n ops rest Q (updo σ dst (.pointer (some ⟨w.heap.size, 0, none⟩))) w') :
    WO P ds n ops (⟨dst, .box t x, ty, ps, af, g⟩ :: rest) Q σ w := by
  refine WO_val hg ?_ (next _ rfl)
  simp [execOp, Instr.box, hx, newVar, newRow, go_sem]
theorem WO_alloc {t : TypeId} {v : Value} (hg : gOk ops n σ g = true) (hz : ∀ w, (zeroValue t).run P w = .ok v w)
    (next : ∀ w', New w w' (.cells v.cells t) → WO P ds n ops rest Q (updo σ dst (.pointer (some ⟨w.heap.size, 0, none⟩))) w') :
    WO P ds n ops (⟨dst, .alloc t, ty, ps, af, g⟩ :: rest) Q σ w := by
  refine WO_val hg ?_ (next _ rfl)
  simp [execOp, Instr.alloc, hz, newVar, newRow, go_sem]
theorem WO_load {t : TypeId} {d : TypeDesc} {x : Operand} {a : Addr} {v : Value} (hg : gOk ops n σ g = true) (hx : ev n σ x = .pointer (some a)) (ht : P.underlying t = some d) (hd : plainD d = true) (hc : w.cell? a = some v)
    (next : WO P ds n ops rest Q (updo σ dst (v)) w) : WO P ds n ops (⟨dst, .load t x, ty, ps, af, g⟩ :: rest) Q σ w :=
  WO_val hg (R_load hx ht hd hc) next
theorem WO_store {t : TypeId} {x y : Operand} {b o : Nat} {c : Array Value} {e : TypeId} {v : Value} (hg : gOk ops n σ g = true) (hx : ev n σ x = .pointer (some ⟨b, o, none⟩)) (hy : ev n σ y = v)
    (hs : ∀ w, (sizeOf t).run P w = .ok 1 w) (h1 : oneC v = true) (hb : w.heap[b]? = some (.cells c e (0, 0))) (ho : o < c.size)
    (next : ∀ w', Upd w w' b (.cells (c.setIfInBounds o v) e (0, 0)) → WO P ds n ops rest Q (updo σ dst undef) w') : WO P ds n ops (⟨dst, .store t x y, ty, ps, af, g⟩ :: rest) Q σ w := by
  have hcell : w.cell? ⟨b, o, none⟩ = some c[o] := cell_of hb (by simp [ho])
  have hfr : w.frozen? ⟨b, o, none⟩ = false := by simp [World.frozen?, hb]
  have hcs : v.cells = #[v] := by cases v <;> first | rfl | simp [oneC] at h1
  refine WO_unit (w' := w.setCell ⟨b, o, none⟩ v) hg ?_ (next _ ⟨rfl, rfl, rfl, by simp [World.setCell], ?_, ?_⟩)
  · cases v <;> first | (simp [oneC] at h1; done) | simp [execOp, Instr.storeAt, Instr.sureAddr, hx, hy, storeVar, hs, Value.cells, storeCells, store, Sem.run, hcell, hfr, Addr.add, go_sem]
  · have hlt := heap_lt hb
    have := (Array.getElem?_eq_some_iff.1 hb).2
    simp [World.setCell, Array.getElem?_modify, hb]
  · intro j hj
    simp [World.setCell, Array.getElem?_modify, Ne.symm hj]
theorem WO_storerow {t e : TypeId} {x y : Operand} {b o : Nat} {c c' : Array Value} (hg : gOk ops n σ g = true) (hx : ev n σ x = .pointer (some ⟨b, o, none⟩)) (hy : ev n σ y = .agg c')
    (hs : ∀ w, (sizeOf t).run P w = .ok c'.size w) (h1 : c'.all (·.oneCell') = true) (hb : w.heap[b]? = some (.cells c e (0, 0))) (ho : o + c'.size ≤ c.size)
    (next : ∀ w', Upd w w' b (.cells (c.toList.take o ++ c'.toList ++ c.toList.drop (o + c'.size)).toArray e (0, 0)) → WO P ds n ops rest Q (updo σ dst undef) w') : WO P ds n ops (⟨dst, .store t x y, ty, ps, af, g⟩ :: rest) Q σ w := by
  have hr := run_storeCells_at P b o e c'.toList 0 c w hb (by simpa using ho) (fun v hv => by rw [Array.all_eq_true_iff_forall_mem] at h1; exact h1 v (by simpa using hv))
  refine WO_unit (w' := w.setRow b (c.toList.take (o + 0) ++ c'.toList ++ c.toList.drop (o + 0 + c'.toList.length)).toArray) hg ?_ (next _ ⟨rfl, rfl, rfl, by simp [World.setRow], ?_, ?_⟩)
  · have hr' : (storeCells ⟨b, o, none⟩ c'.toList).run P w = .ok () (w.setRow b (c.toList.take (o + 0) ++ c'.toList ++ c.toList.drop (o + 0 + c'.toList.length)).toArray) := hr
    simp [execOp, Instr.storeAt, Instr.sureAddr, hx, hy, storeVar, hs, Value.cells, hr', go_sem]
  · rw [setRow_heap w b c _ e _ hb]; simp
  · intro j hj; exact setRow_other w b j _ hj
theorem WO_loadrow {t e : TypeId} {d : TypeDesc} {x : Operand} {b o m : Nat} {c : Array Value} {fr : Nat × Nat} (hg : gOk ops n σ g = true) (hx : ev n σ x = .pointer (some ⟨b, o, none⟩)) (ht : P.underlying t = some d) (hd : plainD d = false)
    (hs : ∀ w, (sizeOf t).run P w = .ok m w) (hb : w.heap[b]? = some (.cells c e fr)) (ho : o + m ≤ c.size)
    (next : WO P ds n ops rest Q (updo σ dst ((.agg ((c.toList.drop o).take m).toArray))) w) : WO P ds n ops (⟨dst, .load t x, ty, ps, af, g⟩ :: rest) Q σ w :=
  WO_val hg (R_loadrow hx ht hd hs hb ho) next
end
theorem W_any {P : Program} {ds : List Deferred} {n : Nat} {c : Code} {Q : Exit → Act → World → Prop} {σ : Nat → Value} {w : World} (h : W P ds n c (fun e σ w => Q e (mk ds n σ) w) σ w) : c.wp P Q (mk ds n σ) w := by
  refine wp_mono h ?_
  rintro e a w ⟨σ', rfl, q⟩; exact q
theorem wp_defer {P : Program} {n : Nat} {id : Nat} {o1 : Oper} {op : Op} {ty : TypeId} {ps : String} {af : Array Edge} {y : Code} {Q : Exit → Act → World → Prop} {σ : Nat → Value} {w : World} {v : Value} {d : Deferred}
    (hg1 : o1.guard = none) (h1 : (execOp (ev n σ) o1).run P w = .ok (.value v) w) (h2 : (execOp (ev n (updo σ o1.dst v)) ⟨none, op, ty, ps, af, none⟩).run P w = .ok (.defer d) w)
    (h : y.wp P Q (mk [d] n (updo σ o1.dst v)) w) : (Code.seq (.region id [o1, ⟨none, op, ty, ps, af, none⟩].toArray false) y).wp P Q (Proofs.YthhacfehjgfpbaaDoor.mk n σ) w := by
  refine wp_seq (wp_region_lit ?_)
  unfold wpList
  rw [Proofs.YthhacfehjgfpbaaDoor.wanted_mk, hg1, show ∀ o : Array Oper, gOk o n σ none = true from fun _ => rfl, if_pos rfl]
  left
  unfold Oper.wp
  rw [Proofs.YthhacfehjgfpbaaDoor.mk_eval, h1, Oper.upon_value, Proofs.YthhacfehjgfpbaaDoor.mk_put]
  unfold wpList
  rw [Proofs.YthhacfehjgfpbaaDoor.wanted_mk, show ∀ (o : Array Oper) (σ : Nat → Value), gOk o n σ none = true from fun _ _ => rfl, if_pos rfl]
  left
  unfold Oper.wp
  rw [Proofs.YthhacfehjgfpbaaDoor.mk_eval, h2, Oper.upon_defer]
  exact h
theorem leaves_cc {P : Program} {ds : List Deferred} {n : Nat} {σ : Nat → Value} {w : World} {fn : Func} {R : Ending → World → Prop} {t u : Nat} {ty ty2 e e2 : TypeId} {d d2 : TypeDesc} {b b2 : Nat} {c : Array Value} {fr fr2 : Nat × Nat} {v1 : Value}
    (hr : fn.results = #[.cell t ty, .cell u ty2]) (h0 : sl n σ t = .pointer (some ⟨b, 0, none⟩)) (ht : P.underlying ty = some d) (hd : plainD d = false) (hs : ∀ w, (sizeOf ty).run P w = .ok c.size w) (hb : w.heap[b]? = some (.cells c e fr))
    (h1 : sl n σ u = .pointer (some ⟨b2, 0, none⟩)) (ht2 : P.underlying ty2 = some d2) (hd2 : plainD d2 = true) (hb2 : w.heap[b2]? = some (.cells #[v1] e2 fr2)) (h : R (.returned (.tuple #[.agg c, v1])) w) : Leaves P fn (mk ds n σ).tmps R [] .returning w := by
  have ha : (isAgg ty).run P w = .ok true w := by cases d <;> simp_all [isAgg, run_underlying ht, plainD]
  refine ⟨_, ?_, h⟩
  have hl := run_loadCells_list (P := P) w ⟨b, 0, none⟩ c.toList (fun j v hj => by
    have hadd : (⟨b, 0, none⟩ : Addr).add j = ⟨b, 0 + j, none⟩ := by unfold Addr.add; split <;> simp_all
    rw [hadd, Nat.zero_add]; exact cell_of hb (by simpa using hj))
  simp only [loadCells] at hl
  simp only [Array.length_toList] at hl
  have hc : w.cell? ⟨b2, 0, none⟩ = some v1 := cell_of hb2 rfl
  have e0 := mk_getD ds n σ t; have e1 := mk_getD ds n σ u
  rw [Array.getD_eq_getD_getElem?] at e0 e1
  simp only [results, hr]
  simp [e0, e1, h0, h1, asAddr, loadVar, loadCells, ha, hs, hl, run_isAgg ht2 hd2, load, Sem.run, hc, go_sem]
end D
end Go.Proofs.YthhacfehjgfpbaaDoor
end
section
namespace Go.Proofs.YthhacfehjgfpbaaDoor
open Go Go.RowKit
theorem en_21 : Enters Tryd.prog 21 := enters_of Tryd.func21 (by kernel_rfl) rfl
theorem one_any (ws : List (List UInt8)) (hl : ws.length ≤ 8388608) (hx : ∀ x ∈ ws, x.length ≤ 8388608) : ∀ (n : Nat), n ≤ ws.length + 3 → OneSaid ws n := by
 have key : ∀ (k n : Nat), n ≤ ws.length + 3 → ws.length + 3 - n ≤ k → OneSaid ws n := by
  intro k
  induction k with
  | zero => exact fun n hn hk b txt w hb hR => one_step ws hl hx n hn (fun n' h1 h2 => by omega) b txt w hb hR
  | succ k ih => exact fun n hn hk b txt w hb hR => one_step ws hl hx n hn (fun n' h1 h2 => ih n' h2 (by omega)) b txt w hb hR
 exact fun n hn => key _ n hn (Nat.le_refl _)
theorem wordsN_ne : ∀ (n : Nat) (s : List UInt8), ∀ x ∈ wordsN n s, x ≠ []
 | 0, s => by simp [wordsN]
 | n + 1, s => by
  unfold wordsN
  split
  ·simp
  ·rename_i h
   intro x hx
   rcases List.mem_cons.1 hx with rfl | hx
   ·exact h
   ·exact wordsN_ne n _ x hx
theorem nonempty_word {s : List UInt8} {m : Nat} (h : m < (wordsOf s).length) : atW (wordsOf s) m ≠ [] := by
 rw [atW_lt h]; exact wordsN_ne _ s _ (nth_mem h)
theorem check_bad {t : DepT} (h : formB t = false) : checkE t = 50 := by unfold checkE; rw [if_neg (by rw [h]; simp)]
theorem parse_bad {s : List UInt8} {t : DepT} {m : Nat} (h : readA (wordsOf s) 0 = some (t, m)) (hm : (wordsOf s).length ≤ m) (hc : checkE t ≠ 0) : parseF s = (zeroT, checkE t) := by
 unfold parseF; rw [h]; simp only
 by_cases he : m = (wordsOf s).length
 ·rw [if_pos he, if_neg hc]
 ·rw [if_neg he, check_bad (readF_over h (by omega))]
theorem parse_good {s : List UInt8} {t : DepT} {m : Nat} (h : readA (wordsOf s) 0 = some (t, m)) (hm : (wordsOf s).length ≤ m) (hc : checkE t = 0) : parseF s = (t, 0) := by
 unfold parseF; rw [h]; simp only
 by_cases he : m = (wordsOf s).length
 ·rw [if_pos he, if_pos hc]
 ·rw [check_bad (readF_over h (by omega))] at hc; cases hc
set_option maxHeartbeats 400000 in
set_option maxRecDepth 100000 in
theorem catch_pan {p q : Nat} {x0 x1 x2 x3 x4 y : Value} {w : World} (hp : w.heap[p]? = some (.cells #[x0, x1, x2, x3, x4] 39 (0, 0))) (hq : w.heap[q]? = some (.cells #[y] 25 (0, 0))) (hpq : p ≠ q) :
  CallsD Tryd.prog 33 #[.pointer (some ⟨p, 0, none⟩), .pointer (some ⟨q, 0, none⟩)] (.panicking oddCh) w fun e u' w' => e = .returned (.tuple #[]) ∧ u' = .panicking [{ v := .iface 65 (.agg #[]), recovered := true }] ∧
   w'.heap[p]? = some (.cells #[.int .i64 0, S [], .int .i64 0, S [], .slice none 0 0] 39 (0, 0)) ∧ w'.heap[q]? = some (.cells #[.int .i64 50] 25 (0, 0)) ∧ ∀ B, B ≤ p → B ≤ q → Below B w w' := by
 unfold oddCh
 have hpl := heap_lt hp
 have hql := heap_lt hq
 refine callsD_of_wpS Tryd.func33 rfl fun c₀ cs hu => ?_
 apply wpS_seq
 apply wpS_region
 simp [wpOpsS, go_sem, recoverD, hu, Tryd.ntmps33, Exit.thenS]
 refine wpS_of_wp ?_
 rw [show ({ tmps := #[Value.pointer (some ⟨p, 0, none⟩), Value.pointer (some ⟨q, 0, none⟩)] ++ ((Array.replicate 14 undef).setIfInBounds 3 (.iface 65 (.agg #[]))).setIfInBounds 0 (.iface 65 (.agg #[])), defers := [] } : Act) = mk 16 (upd (upd (argσ [.pointer (some ⟨p, 0, none⟩), .pointer (some ⟨q, 0, none⟩)]) 5 (.iface 65 (.agg #[]))) 2 (.iface 65 (.agg #[]))) from by kernel_rfl]
 refine W_any ?_
 refine W_seq ?_
 refine W_reg ?_
 refine WO_pure (v := ((.iface 65 (.agg #[])))) rfl rfl ?_
 refine WO_same (v := .tuple #[.agg #[], .bool true]) rfl (by kernel_rfl) ?_
 refine WO_pure rfl rfl ?_
 refine WO_pure (v := (.agg #[])) rfl rfl ?_
 refine WO_pure (v := (.bool true)) rfl rfl ?_
 refine WO_alloc (v := (.agg #[])) rfl (fun _ => by kernel_rfl) (fun w1 n1 => ?_)
 have e1 : w1.heap[w.heap.size]? = some (.cells #[] 65 (0, 0)) := n1.here
 have z1 := n1.size
 have p2 := e1
 refine WO_storerow (b := w.heap.size) (o := 0) (c' := #[]) rfl rfl rfl (fun _ => by kernel_rfl) (by simp [Value.oneCell']) p2 (by simp) (fun w2 u2 => ?_)
 have e2 : w2.heap[w.heap.size]? = some (.cells #[] 65 (0, 0)) := u2.here
 have z2 := u2.size
 refine WO_pure (v := (.bool true)) rfl rfl ?_
 refine WO_nil ?_
 refine W_seq ?_
 refine W_reg ?_
 refine WO_pure (v := (.bool true)) rfl rfl ?_
 refine WO_nil ?_
 refine W_true rfl ?_
 refine W_reg ?_
 refine WO_same (v := (.agg #[(.int .i64 0), (S []), (.int .i64 0), (S []), (.slice none 0 0)])) rfl (by kernel_rfl) ?_
 have p3 := (u2.keep (n1.keep hp) (heap_ne (n1.keep hp) p2 (by decide)))
 refine WO_storerow (b := p) (o := 0) (c' := #[(.int .i64 0), (S []), (.int .i64 0), (S []), (.slice none 0 0)]) rfl rfl rfl (fun _ => by kernel_rfl) (by simp [Value.oneCell']) p3 (by simp) (fun w3 u3 => ?_)
 have e3 : w3.heap[p]? = some (.cells #[(.int .i64 0), (S []), (.int .i64 0), (S []), (.slice none 0 0)] 39 (0, 0)) := u3.here
 have z3 := u3.size
 have p4 := (u3.keep (u2.keep (n1.keep hq) (heap_ne (n1.keep hq) p2 (by decide))) (heap_ne (u2.keep (n1.keep hq) (heap_ne (n1.keep hq) p2 (by decide))) p3 (by decide)))
 refine WO_store (b := q) (o := 0) (v := (.int .i64 50)) rfl rfl rfl (fun _ => by kernel_rfl) rfl p4 (by simp) (fun w4 u4 => ?_)
 have e4 : w4.heap[q]? = some (.cells #[(.int .i64 50)] 25 (0, 0)) := u4.here
 have z4 := u4.size
 refine WO_nil ?_
 refine ⟨rfl, .panicking [{ v := .iface 65 (.agg #[]), recovered := true }], rfl, _, results_none rfl _ _ _, rfl, rfl, (u4.keep e3 (heap_ne e3 p4 (by decide))), e4, fun B hB1 hB2 => (u4.below (u3.below (u2.below (n1.below (Below.refl B w) (by omega)) (by omega)) (by omega)) (by omega))⟩
set_option maxHeartbeats 400000 in
set_option maxRecDepth 100000 in
theorem catch_idle (p q : Nat) (w : World) : CallsD Tryd.prog 33 #[.pointer (some ⟨p, 0, none⟩), .pointer (some ⟨q, 0, none⟩)] .returning w fun e u' w' => e = .returned (.tuple #[]) ∧ u' = .returning ∧ Below w.heap.size w w' := by
 refine callsD_of_wpS Tryd.func33 rfl fun c₀ cs hu => ?_
 apply wpS_seq
 apply wpS_region
 simp [wpOpsS, go_sem, recoverD, hu, Tryd.ntmps33, Exit.thenS]
 refine wpS_of_wp ?_
 rw [show ({ tmps := #[Value.pointer (some ⟨p, 0, none⟩), Value.pointer (some ⟨q, 0, none⟩)] ++ ((Array.replicate 14 undef).setIfInBounds 3 .nilIface).setIfInBounds 0 .nilIface, defers := [] } : Act) = mk 16 (upd (upd (argσ [.pointer (some ⟨p, 0, none⟩), .pointer (some ⟨q, 0, none⟩)]) 5 .nilIface) 2 .nilIface) from by kernel_rfl]
 refine W_any ?_
 refine W_seq ?_
 refine W_reg ?_
 refine WO_pure (v := (.nilIface)) rfl rfl ?_
 refine WO_same (v := .tuple #[.agg #[], .bool false]) rfl (by kernel_rfl) ?_
 refine WO_pure rfl rfl ?_
 refine WO_pure (v := (.agg #[])) rfl rfl ?_
 refine WO_pure (v := (.bool false)) rfl rfl ?_
 refine WO_alloc (v := (.agg #[])) rfl (fun _ => by kernel_rfl) (fun w1 n1 => ?_)
 have e1 : w1.heap[w.heap.size]? = some (.cells #[] 65 (0, 0)) := n1.here
 have z1 := n1.size
 have p2 := e1
 refine WO_storerow (b := w.heap.size) (o := 0) (c' := #[]) rfl rfl rfl (fun _ => by kernel_rfl) (by simp [Value.oneCell']) p2 (by simp) (fun w2 u2 => ?_)
 have e2 : w2.heap[w.heap.size]? = some (.cells #[] 65 (0, 0)) := u2.here
 have z2 := u2.size
 refine WO_pure (v := (.bool false)) rfl rfl ?_
 refine WO_nil ?_
 refine W_seq ?_
 refine W_reg ?_
 refine WO_pure (v := (.bool false)) rfl rfl ?_
 refine WO_nil ?_
 refine W_false rfl ?_
 refine W_seq ?_
 refine W_reg ?_
 refine WO_pure (v := (.nilIface)) rfl rfl ?_
 refine WO_same (v := .bool false) rfl (by kernel_rfl) ?_
 refine WO_nil ?_
 refine W_false rfl ?_
 refine W_skip ?_
 refine ⟨rfl, .returning, by cases c₀; simp_all, _, results_none rfl _ _ _, rfl, rfl, (u2.below (n1.below (Below.refl w.heap.size w) (Below.refl w.heap.size w).size) (by omega))⟩
set_option maxHeartbeats 2000000 in
set_option maxRecDepth 100000 in
theorem parse_any (s : List UInt8) (w : World) (hl : s.length ≤ 1048576) : Calls Tryd.prog 21 #[S s] w (Ret fun v w' => ParseIs w.heap.size w' (parseF s) v ∧ Below w.heap.size w w') := by
 have hwl := wordsOf_len s
 refine calls_of_wp_defers Tryd.func21 rfl ?_
 rw [show ({ tmps := #[S s] ++ Array.replicate (Tryd.f21.ntmps - #[S s].size) undef, defers := [] } : Act) = mk 28 (argσ [S s]) from by rw [Tryd.ntmps21]; kernel_rfl]
 refine W_top ?_
 refine W_reg ?_
 refine WO_alloc (v := (.agg #[(.int .i64 0), (S []), (.int .i64 0), (S []), (.slice none 0 0)])) rfl (fun _ => by kernel_rfl) (fun w1 n1 => ?_)
 have z1 := n1.size
 refine WO_alloc (v := .int .i64 0) rfl (fun _ => by kernel_rfl) (fun w2 n2 => ?_)
 have z2 := n2.size
 have e1 : w1.heap[w.heap.size]? = some (.cells #[(.int .i64 0), (S []), (.int .i64 0), (S []), (.slice none 0 0)] 39 (0, 0)) := n1.here
 have e2 : w2.heap[w1.heap.size]? = some (.cells #[.int .i64 0] 25 (0, 0)) := n2.here
 refine WO_nil ?_
 refine D.wp_defer (v := .func (.func 33) #[] #[(.pointer (some ⟨w.heap.size, 0, none⟩)), (.pointer (some ⟨w1.heap.size, 0, none⟩))]) (d := { target := .fn (.func 33) #[(.pointer (some ⟨w.heap.size, 0, none⟩)), (.pointer (some ⟨w1.heap.size, 0, none⟩))], args := #[] }) rfl (by kernel_rfl) (by kernel_rfl) ?_
 refine D.W_any ?_
 refine D.W_seq ?_
 refine D.W_reg ?_
 refine D.WO_pure (v := (S s)) rfl rfl ?_
 refine D.WO_same (v := (.agg #[(S s), (S [])])) rfl (by kernel_rfl) ?_
 refine D.WO_box (v := (.agg #[(S s), (S [])])) rfl rfl (fun w3 n3 => ?_)
 have e3 : w3.heap[w2.heap.size]? = some (.cells #[(S s), (S [])] 69 (0, 0)) := n3.here
 have z3 := n3.size
 refine D.WO_pure (v := (.pointer (some ⟨w2.heap.size, 0, none⟩))) rfl rfl ?_
 refine D.WO_nil ?_
 refine D.W_seq ?_
 refine D.W_reg ?_
 refine D.WO_pure (v := (.pointer (some ⟨w2.heap.size, 0, none⟩))) rfl rfl ?_
 refine D.WO_call rfl (by exact en_34) (next_any w2.heap.size s [] _ e3 (by omega)) ?_
 rintro _ wx ⟨hcx, gx⟩
 have z_x := gx.size
 have hst := Rep.start s (by omega)
 rw [hst.1] at hcx
 have z_wx := gx.size
 refine D.WO_nil ?_
 refine D.W_seq ?_
 refine D.W_reg ?_
 refine D.WO_pure (v := (.pointer (some ⟨w2.heap.size, 0, none⟩))) rfl rfl ?_
 refine D.WO_callp rfl (by exact en_35) (one_any (wordsOf s) (by omega) (fun x hx => by have := wordsOf_each s x hx; omega) 0 (by omega) w2.heap.size (nextW s).2 _ hcx hst.2) (by rintro wp hp; refine leaves_cons (f := 33) (args := #[(.pointer (some ⟨w.heap.size, 0, none⟩)), (.pointer (some ⟨w1.heap.size, 0, none⟩))]) (by simp) (by simp [go_sem]) ?_; refine (catch_pan (grown_keep hp.2 (grown_keep gx (n3.keep (n2.keep e1)) (by first | assumption | omega | (intro e; have e2 := Option.some.inj e; omega) | (simp; omega))) (by intro e; have e2 := Option.some.inj e; omega)) (grown_keep hp.2 (grown_keep gx (n3.keep e2) (by first | assumption | omega | (intro e; have e2 := Option.some.inj e; omega) | (simp; omega))) (by intro e; have e2 := Option.some.inj e; omega)) (by omega)).mono ?_; rintro e u' w'' ⟨rfl, rfl, hh1, hh2, hh3⟩; exact D.leaves_cc rfl rfl Tryd.underlying39 rfl (fun _ => by kernel_rfl) hh1 rfl Tryd.underlying25 rfl hh2 ⟨_, rfl, parseIs_zero (by unfold parseF; rw [hp.1]), (Below.trans (grown_below hp.2 (grown_below gx (n3.below (n2.below (n1.below (Below.refl w.heap.size w) (Below.refl w.heap.size w).size) (n1.below (Below.refl w.heap.size w) (Below.refl w.heap.size w).size).size) (n2.below (n1.below (Below.refl w.heap.size w) (Below.refl w.heap.size w).size) (n1.below (Below.refl w.heap.size w) (Below.refl w.heap.size w).size).size).size) (by intro k hk; cases hk; omega)) (by intro k hk; cases hk; omega)) (hh3 _ (by omega) (by omega)))⟩) ?_
 rintro _ woz ⟨kz, opz, nmz, evz, asz, mz, txz, svz, cssz, hrz, rfl, rxz, axz, htz, hRz, goz⟩
 have z_z := goz.size
 have hmz := readA_le hrz
 have hqz := read_size hrz hl
 have z_woz := goz.size
 refine D.WO_alloc (v := (.agg #[(.int .i64 0), (S []), (.int .i64 0), (S []), (.slice none 0 0)])) rfl (fun _ => by kernel_rfl) (fun w4 n4 => ?_)
 have e4 : w4.heap[woz.heap.size]? = some (.cells #[(.int .i64 0), (S []), (.int .i64 0), (S []), (.slice none 0 0)] 39 (0, 0)) := n4.here
 have z4 := n4.size
 have p5 := e4
 refine D.WO_storerow (b := woz.heap.size) (o := 0) (c' := #[(.int .i64 kz), (S nmz), (.int .i64 opz), (S evz), svz]) rfl rfl rfl (fun _ => by kernel_rfl) (by rw [Array.all_eq_true_iff_forall_mem]; intro v hv; simp only [List.mem_toArray, List.mem_cons, List.not_mem_nil, or_false] at hv; rcases hv with hv | hv | hv | hv | hv <;> (rw [hv]; first | rfl | exact oneCell_is (rxz.1.ext n4.ext))) p5 (by simp) (fun w5 u5 => ?_)
 have e5 : w5.heap[woz.heap.size]? = some (.cells #[(.int .i64 kz), (S nmz), (.int .i64 opz), (S evz), svz] 39 (0, 0)) := u5.here
 have z5 := u5.size
 refine D.WO_nil ?_
 refine D.W_seq ?_
 refine D.W_reg ?_
 refine D.WO_pure (v := (.pointer (some ⟨w2.heap.size, 0, none⟩))) rfl rfl ?_
 refine D.WO_pure (v := (.pointer (some ⟨w2.heap.size, 0, none⟩))) rfl rfl ?_
 refine D.WO_same (v := (.pointer (some ⟨w2.heap.size, 1, none⟩))) rfl (by kernel_rfl) ?_
 refine D.WO_load (a := ⟨w2.heap.size, 1, none⟩) (v := (S ((atW (wordsOf s) mz)))) rfl rfl Tryd.underlying9 rfl (cell_of (u5.keep (n4.keep htz) (heap_ne (n4.keep htz) p5 (by decide))) rfl) ?_
 refine D.WO_seql (l1 := (atW (wordsOf s) mz)) (l2 := []) rfl rfl rfl ?_
 refine D.WO_callp rfl (by exact en_36) (need_any (decide ((atW (wordsOf s) mz) = [])) _) (by rintro wp ⟨w_ok, rfl⟩; refine leaves_cons (f := 33) (args := #[(.pointer (some ⟨w.heap.size, 0, none⟩)), (.pointer (some ⟨w1.heap.size, 0, none⟩))]) (by simp) (by simp [go_sem]) ?_; refine (catch_pan (u5.keep (n4.keep (grown_keep goz (grown_keep gx (n3.keep (n2.keep e1)) (by first | assumption | omega | (intro e; have e2 := Option.some.inj e; omega) | (simp; omega))) (by first | assumption | omega | (intro e; have e2 := Option.some.inj e; omega) | (simp; omega)))) (by first | assumption | omega | (simp; omega))) (u5.keep (n4.keep (grown_keep goz (grown_keep gx (n3.keep e2) (by first | assumption | omega | (intro e; have e2 := Option.some.inj e; omega) | (simp; omega))) (by first | assumption | omega | (intro e; have e2 := Option.some.inj e; omega) | (simp; omega)))) (heap_ne (n4.keep (grown_keep goz (grown_keep gx (n3.keep e2) (by first | assumption | omega | (intro e; have e2 := Option.some.inj e; omega) | (simp; omega))) (by first | assumption | omega | (intro e; have e2 := Option.some.inj e; omega) | (simp; omega)))) p5 (by decide))) (by omega)).mono ?_; rintro e u' w'' ⟨rfl, rfl, hh1, hh2, hh3⟩; exact D.leaves_cc rfl rfl Tryd.underlying39 rfl (fun _ => by kernel_rfl) hh1 rfl Tryd.underlying25 rfl hh2 ⟨_, rfl, parseIs_zero (by unfold parseF; rw [hrz]; simp only; rw [if_neg (fun e => by rw [atW_ge (by omega)] at w_ok; simp at w_ok)]), (Below.trans (u5.below (n4.below (grown_below goz (grown_below gx (n3.below (n2.below (n1.below (Below.refl w.heap.size w) (Below.refl w.heap.size w).size) (n1.below (Below.refl w.heap.size w) (Below.refl w.heap.size w).size).size) (n2.below (n1.below (Below.refl w.heap.size w) (Below.refl w.heap.size w).size) (n1.below (Below.refl w.heap.size w) (Below.refl w.heap.size w).size).size).size) (by intro k hk; cases hk; omega)) (by intro k hk; cases hk; omega)) (grown_below goz (grown_below gx (n3.below (n2.below (n1.below (Below.refl w.heap.size w) (Below.refl w.heap.size w).size) (n1.below (Below.refl w.heap.size w) (Below.refl w.heap.size w).size).size) (n2.below (n1.below (Below.refl w.heap.size w) (Below.refl w.heap.size w).size) (n1.below (Below.refl w.heap.size w) (Below.refl w.heap.size w).size).size).size) (by intro k hk; cases hk; omega)) (by intro k hk; cases hk; omega)).size) (by omega)) (hh3 _ (by omega) (by omega)))⟩) ?_
 rintro _ _ ⟨w_ok, rfl, rfl⟩
 have hge : (wordsOf s).length ≤ mz := Decidable.byContradiction fun h => nonempty_word (s := s) (m := mz) (by omega) (by simpa using w_ok)
 refine D.WO_nil ?_
 refine D.W_seq ?_
 refine D.W_seq ?_
 refine D.W_reg ?_
 refine D.WO_loadrow (b := woz.heap.size) (o := 0) (m := 5) (c := #[(.int .i64 kz), (S nmz), (.int .i64 opz), (S evz), svz]) rfl rfl Tryd.underlying39 rfl (fun _ => by kernel_rfl) e5 (by simp) ?_
 refine D.WO_eq 21 (v' := (.agg #[(.int .i64 kz), (S nmz), (.int .i64 opz), (S evz), svz])) rfl rfl ?_
 refine D.WO_call rfl (by exact en_37) (check_any (DepT.mk kz nmz opz evz asz) _ (DepC.ext (u5.below (n4.below (Below.refl woz.heap.size woz) (Below.refl woz.heap.size woz).size) (by omega)) _ _ (DepX.toC _ _ (DepX.intro (k := kz) (op := opz) (nm := nmz) (ev := evz) rxz axz))) hqz) ?_
 rintro _ wk ⟨rfl, bk⟩
 have z_k := bk.size
 have z_wk := bk.size
 refine D.WO_pure (v := (.int .i64 (checkE (DepT.mk kz nmz opz evz asz)))) rfl rfl ?_
 refine D.WO_nil ?_
 refine D.W_seq ?_
 refine D.W_reg ?_
 refine D.WO_pure (v := (.int .i64 (checkE (DepT.mk kz nmz opz evz asz)))) rfl rfl ?_
 refine D.WO_pure (v := (.bool (!decide ((checkE (DepT.mk kz nmz opz evz asz)) = 0)))) rfl rfl ?_
 refine D.WO_nil ?_
 refine D.W_cond (t := !decide ((checkE (DepT.mk kz nmz opz evz asz)) = 0)) rfl (fun c1 => ?_) (fun c1 => ?_)
 ·refine D.W_seq ?_
  refine D.W_reg ?_
  refine D.WO_same (v := (.agg #[(.int .i64 0), (S []), (.int .i64 0), (S []), (.slice none 0 0)])) rfl (by kernel_rfl) ?_
  refine D.WO_pure (v := (.int .i64 (checkE (DepT.mk kz nmz opz evz asz)))) rfl rfl ?_
  have p6 := (below_keep bk (u5.keep (n4.keep (grown_keep goz (grown_keep gx (n3.keep (n2.keep e1)) (by first | assumption | omega | (intro e; have e2 := Option.some.inj e; omega) | (simp; omega))) (by first | assumption | omega | (intro e; have e2 := Option.some.inj e; omega) | (simp; omega)))) (by first | assumption | omega | (simp; omega))))
  refine D.WO_storerow (b := w.heap.size) (o := 0) (c' := #[(.int .i64 0), (S []), (.int .i64 0), (S []), (.slice none 0 0)]) rfl rfl rfl (fun _ => by kernel_rfl) (by simp [Value.oneCell']) p6 (by simp) (fun w6 u6 => ?_)
  have e6 : w6.heap[w.heap.size]? = some (.cells #[(.int .i64 0), (S []), (.int .i64 0), (S []), (.slice none 0 0)] 39 (0, 0)) := u6.here
  have z6 := u6.size
  have p7 := (u6.keep (below_keep bk (u5.keep (n4.keep (grown_keep goz (grown_keep gx (n3.keep e2) (by first | assumption | omega | (intro e; have e2 := Option.some.inj e; omega) | (simp; omega))) (by first | assumption | omega | (intro e; have e2 := Option.some.inj e; omega) | (simp; omega)))) (heap_ne (n4.keep (grown_keep goz (grown_keep gx (n3.keep e2) (by first | assumption | omega | (intro e; have e2 := Option.some.inj e; omega) | (simp; omega))) (by first | assumption | omega | (intro e; have e2 := Option.some.inj e; omega) | (simp; omega)))) p5 (by decide)))) (heap_ne (below_keep bk (u5.keep (n4.keep (grown_keep goz (grown_keep gx (n3.keep e2) (by first | assumption | omega | (intro e; have e2 := Option.some.inj e; omega) | (simp; omega))) (by first | assumption | omega | (intro e; have e2 := Option.some.inj e; omega) | (simp; omega)))) (heap_ne (n4.keep (grown_keep goz (grown_keep gx (n3.keep e2) (by first | assumption | omega | (intro e; have e2 := Option.some.inj e; omega) | (simp; omega))) (by first | assumption | omega | (intro e; have e2 := Option.some.inj e; omega) | (simp; omega)))) p5 (by decide)))) p6 (by decide)))
  refine D.WO_store (b := w1.heap.size) (o := 0) (v := (.int .i64 (checkE (DepT.mk kz nmz opz evz asz)))) rfl rfl rfl (fun _ => by kernel_rfl) rfl p7 (by simp) (fun w7 u7 => ?_)
  have e7 : w7.heap[w1.heap.size]? = some (.cells #[(.int .i64 (checkE (DepT.mk kz nmz opz evz asz)))] 25 (0, 0)) := u7.here
  have z7 := u7.size
  refine D.WO_nil ?_
  refine D.W_ret ?_
  refine leaves_cons (f := 33) (args := #[(.pointer (some ⟨w.heap.size, 0, none⟩)), (.pointer (some ⟨w1.heap.size, 0, none⟩))]) (by simp) (by simp [go_sem]) ?_
  refine (catch_idle _ _ _).mono ?_
  rintro e u' w'' ⟨rfl, rfl, hh⟩
  exact D.leaves_cc rfl rfl Tryd.underlying39 rfl (fun _ => by kernel_rfl) (below_keep hh (u7.keep e6 (heap_ne e6 p7 (by decide)))) rfl Tryd.underlying25 rfl (below_keep hh e7) ⟨_, rfl, parseIs_zero (parse_bad hrz hge (by simpa using c1)), below_ext (u7.below (u6.below (below_ext (u5.below (n4.below (grown_below goz (grown_below gx (n3.below (n2.below (n1.below (Below.refl w.heap.size w) (Below.refl w.heap.size w).size) (n1.below (Below.refl w.heap.size w) (Below.refl w.heap.size w).size).size) (n2.below (n1.below (Below.refl w.heap.size w) (Below.refl w.heap.size w).size) (n1.below (Below.refl w.heap.size w) (Below.refl w.heap.size w).size).size).size) (by intro k hk; cases hk; omega)) (by intro k hk; cases hk; omega)) (grown_below goz (grown_below gx (n3.below (n2.below (n1.below (Below.refl w.heap.size w) (Below.refl w.heap.size w).size) (n1.below (Below.refl w.heap.size w) (Below.refl w.heap.size w).size).size) (n2.below (n1.below (Below.refl w.heap.size w) (Below.refl w.heap.size w).size) (n1.below (Below.refl w.heap.size w) (Below.refl w.heap.size w).size).size).size) (by intro k hk; cases hk; omega)) (by intro k hk; cases hk; omega)).size) (by omega)) bk) (by omega)) (by omega)) hh⟩
 ·refine D.W_skip ?_
  refine D.W_seq ?_
  refine D.W_reg ?_
  refine D.WO_loadrow (b := woz.heap.size) (o := 0) (m := 5) (c := #[(.int .i64 kz), (S nmz), (.int .i64 opz), (S evz), svz]) rfl rfl Tryd.underlying39 rfl (fun _ => by kernel_rfl) (below_keep bk e5) (by simp) ?_
  refine D.WO_eq 27 (v' := (.agg #[(.int .i64 kz), (S nmz), (.int .i64 opz), (S evz), svz])) rfl rfl ?_
  have p8 := (below_keep bk (u5.keep (n4.keep (grown_keep goz (grown_keep gx (n3.keep (n2.keep e1)) (by first | assumption | omega | (intro e; have e2 := Option.some.inj e; omega) | (simp; omega))) (by first | assumption | omega | (intro e; have e2 := Option.some.inj e; omega) | (simp; omega)))) (by first | assumption | omega | (simp; omega))))
  refine D.WO_storerow (b := w.heap.size) (o := 0) (c' := #[(.int .i64 kz), (S nmz), (.int .i64 opz), (S evz), svz]) rfl rfl rfl (fun _ => by kernel_rfl) (by rw [Array.all_eq_true_iff_forall_mem]; intro v hv; simp only [List.mem_toArray, List.mem_cons, List.not_mem_nil, or_false] at hv; rcases hv with hv | hv | hv | hv | hv <;> (rw [hv]; first | rfl | exact oneCell_is (rxz.1.ext (below_ext (u5.below (n4.below (Below.refl woz.heap.size woz) (Below.refl woz.heap.size woz).size) (by omega)) bk)))) p8 (by simp) (fun w8 u8 => ?_)
  have e8 : w8.heap[w.heap.size]? = some (.cells #[(.int .i64 kz), (S nmz), (.int .i64 opz), (S evz), svz] 39 (0, 0)) := u8.here
  have z8 := u8.size
  have p9 := (u8.keep (below_keep bk (u5.keep (n4.keep (grown_keep goz (grown_keep gx (n3.keep e2) (by first | assumption | omega | (intro e; have e2 := Option.some.inj e; omega) | (simp; omega))) (by first | assumption | omega | (intro e; have e2 := Option.some.inj e; omega) | (simp; omega)))) (heap_ne (n4.keep (grown_keep goz (grown_keep gx (n3.keep e2) (by first | assumption | omega | (intro e; have e2 := Option.some.inj e; omega) | (simp; omega))) (by first | assumption | omega | (intro e; have e2 := Option.some.inj e; omega) | (simp; omega)))) p5 (by decide)))) (heap_ne (below_keep bk (u5.keep (n4.keep (grown_keep goz (grown_keep gx (n3.keep e2) (by first | assumption | omega | (intro e; have e2 := Option.some.inj e; omega) | (simp; omega))) (by first | assumption | omega | (intro e; have e2 := Option.some.inj e; omega) | (simp; omega)))) (heap_ne (n4.keep (grown_keep goz (grown_keep gx (n3.keep e2) (by first | assumption | omega | (intro e; have e2 := Option.some.inj e; omega) | (simp; omega))) (by first | assumption | omega | (intro e; have e2 := Option.some.inj e; omega) | (simp; omega)))) p5 (by decide)))) p8 (by decide)))
  refine D.WO_store (b := w1.heap.size) (o := 0) (v := (.int .i64 0)) rfl rfl rfl (fun _ => by kernel_rfl) rfl p9 (by simp) (fun w9 u9 => ?_)
  have e9 : w9.heap[w1.heap.size]? = some (.cells #[(.int .i64 0)] 25 (0, 0)) := u9.here
  have z9 := u9.size
  refine D.WO_nil ?_
  refine D.W_ret ?_
  refine leaves_cons (f := 33) (args := #[(.pointer (some ⟨w.heap.size, 0, none⟩)), (.pointer (some ⟨w1.heap.size, 0, none⟩))]) (by simp) (by simp [go_sem]) ?_
  refine (catch_idle _ _ _).mono ?_
  rintro e u' w'' ⟨rfl, rfl, hh⟩
  have hpf : parseF s = (DepT.mk kz nmz opz evz asz, 0) := parse_good hrz hge (by simpa using c1)
  exact D.leaves_cc rfl rfl Tryd.underlying39 rfl (fun _ => by kernel_rfl) (below_keep hh (u9.keep e8 (heap_ne e8 p9 (by decide)))) rfl Tryd.underlying25 rfl (below_keep hh e9) ⟨_, rfl, (by rw [hpf]; exact ⟨_, rfl, DepX.ext hh _ _ (DepX.go (fun b hb hp => by change _ ≤ b at hp; exact ⟨by omega, ((u9.block b (by first | assumption | omega | (intro e; have e2 := Option.some.inj e; omega) | (intro e; simp_all; done) | (intro e; simp_all; omega))).trans ((u8.block b (by first | assumption | omega | (intro e; have e2 := Option.some.inj e; omega) | (intro e; simp_all; done) | (intro e; simp_all; omega))).trans ((bk.block b (by omega)).trans ((u5.block b (by first | assumption | omega | (intro e; have e2 := Option.some.inj e; omega) | (intro e; simp_all; done) | (intro e; simp_all; omega))).trans (n4.ext.block b (by omega))))))⟩) (by omega) _ _ (DepX.intro (k := kz) (op := opz) (nm := nmz) (ev := evz) rxz axz))⟩), below_ext (u9.below (u8.below (below_ext (u5.below (n4.below (grown_below goz (grown_below gx (n3.below (n2.below (n1.below (Below.refl w.heap.size w) (Below.refl w.heap.size w).size) (n1.below (Below.refl w.heap.size w) (Below.refl w.heap.size w).size).size) (n2.below (n1.below (Below.refl w.heap.size w) (Below.refl w.heap.size w).size) (n1.below (Below.refl w.heap.size w) (Below.refl w.heap.size w).size).size).size) (by intro k hk; cases hk; omega)) (by intro k hk; cases hk; omega)) (grown_below goz (grown_below gx (n3.below (n2.below (n1.below (Below.refl w.heap.size w) (Below.refl w.heap.size w).size) (n1.below (Below.refl w.heap.size w) (Below.refl w.heap.size w).size).size) (n2.below (n1.below (Below.refl w.heap.size w) (Below.refl w.heap.size w).size) (n1.below (Below.refl w.heap.size w) (Below.refl w.heap.size w).size).size).size) (by intro k hk; cases hk; omega)) (by intro k hk; cases hk; omega)).size) (by omega)) bk) (by omega)) (by omega)) hh⟩
end Go.Proofs.YthhacfehjgfpbaaDoor
end
section
namespace Go.Proofs.YthhacfehjgfpbaaDoor
open Go Go.RowKit
theorem depC_mk {w : World} {k op : Int} {nm ev : List UInt8} {args : List DepT} {sv : Value} {css : List (List Value)} (h1 : RowIs w sv args.length 5 css.flatten) (h2 : ArgsC w args css) : DepC w (.mk k nm op ev args) [.int .i64 k, S nm, .int .i64 op, S ev, sv] := by
 unfold DepC
 exact ⟨sv, css, rfl, h1, h2⟩
theorem zero_size : zeroT.size ≤ 4194304 := by decide
theorem parse_size {s : List UInt8} (hl : s.length ≤ 1048576) : (parseF s).1.size ≤ 4194304 := by
 unfold parseF
 split
 ·exact zero_size
 ·rename_i t m h
  have := read_size h hl
  repeat' split
  all_goals first | exact this | exact zero_size
end Go.Proofs.YthhacfehjgfpbaaDoor
end
section
namespace Go.Proofs.YthhacfehjgfpbaaDoor
open Go Go.RowKit
def Bld (w : World) (b : Nat) (l : List UInt8) : Prop :=
  ∃ p v, (p = .pointer none ∨ p = .pointer (some ⟨b, 0, none⟩)) ∧ w.heap[b]? = some (.cells #[p, v] 47 (0, 0)) ∧ w.ownsRow b 5 1 v l.length (Lib.byteCells l)
def Kept (b : Nat) (w w' : World) : Prop := Below b w w' ∧ Lib.OthersKept 5 (some b) w w'
section
variable {w w' w0 : World} {b k : Nat} {l : List UInt8} {o : Obj}
theorem Kept.refl (b : Nat) (w : World) : Kept b w w := ⟨Below.refl _ _, Lib.OthersKept.refl _ _ _⟩
theorem Kept.trans (h : Kept b w0 w) (k : Kept b w w') : Kept b w0 w' := ⟨h.1.trans k.1, h.2.trans k.2⟩
theorem Kept.size (h : Kept b w w') : w.heap.size ≤ w'.heap.size := h.1.size
theorem kept_ext (h : Kept b w0 w) (e : Below w.heap.size w w') (hb : b ≤ w.heap.size) : Kept b w0 w' :=
  ⟨h.1.trans (e.mono hb), fun i o hi hne ho => by
    have h1 := h.2 i o hi hne ho
    rw [e.block i (heap_lt h1)]; exact h1⟩
theorem kept_grown (h : Kept b w0 w) (g : w.grownBy w' (some b)) (hb : b ≤ w.heap.size) : Kept b w0 w' :=
  ⟨h.1.grown g hb (fun k hk => by cases hk; exact Nat.le_refl _), fun i o hi hne ho => by
    have h1 := h.2 i o hi hne ho
    rw [g.block i (heap_lt h1) hne]; exact h1⟩
theorem kept_own {v : Value} {m : Nat} {xs : List Value} (h : Kept b w0 w) (ow : w.ownsRow b 5 1 v m xs) (g : w.grownBy w' v.ownBlock) (hb : b ≤ w.heap.size) : Kept b w0 w' :=
  ⟨h.1.grown g hb (fun k hk => (ow.lt k hk).1), h.2.grown g (fun i hi => by
    rcases ow.2 with ⟨rfl, _⟩ | ⟨g', cap, cur, rfl, _, hg, _⟩
    · simp [Value.ownBlock] at hi
    · simp only [Value.ownBlock, Option.some.injEq] at hi
      subst hi; exact ⟨_, _, hg⟩)⟩
theorem kept_updb (h : Kept b w0 w) (u : Upd w w' b o) : Kept b w0 w' :=
  ⟨⟨u.os.trans h.1.os, u.tape.trans h.1.tape, u.output.trans h.1.output, by rw [u.size]; exact h.1.size, fun k hk => (u.block k (by omega)).trans (h.1.block k hk)⟩, fun i o hi hne ho => by
    have h1 := h.2 i o hi hne ho
    rw [u.block i (fun e => hne (by rw [e]))]; exact h1⟩
theorem kept_updo (h : Kept b w0 w) (u : Upd w w' k o) (hk : w0.heap.size ≤ k ∧ b ≤ k) : Kept b w0 w' :=
  ⟨⟨u.os.trans h.1.os, u.tape.trans h.1.tape, u.output.trans h.1.output, by rw [u.size]; exact h.1.size, fun j hj => (u.block j (by omega)).trans (h.1.block j hj)⟩, fun i o hi hne ho => by
    have h1 := h.2 i o hi hne ho
    have := heap_lt hi
    rw [u.block i (by omega)]; exact h1⟩
theorem kept_keep' {c : Array Value} {T : TypeId} {fr : Nat × Nat} (kp : Kept b w w') (h : w.heap[k]? = some (.cells c T fr)) (hT : T ≠ 5) (hne : k ≠ b) : w'.heap[k]? = some (.cells c T fr) :=
  kp.2 k _ h (fun e => hne (Option.some.inj e)) (fun c' fz e => hT (by cases e; rfl))
theorem kept_bel {B : Nat} (H : Below B w0 w) (k : Kept b w w') (hB : B ≤ b) : Below B w0 w' := H.trans (k.1.mono hB)
theorem Bld.lt (h : Bld w b l) : b < w.heap.size := by obtain ⟨p, v, _, h1, _⟩ := h; exact heap_lt h1
theorem Bld.ext (h : Bld w b l) (e : Below w.heap.size w w') : Bld w' b l := by
  obtain ⟨p, v, hp, h1, h2⟩ := h
  exact ⟨p, v, hp, below_keep e h1, below_owns e h2⟩
theorem Bld.kit (h : Bld w b l) : Lib.IsBuilderF 47 5 b b (Lib.byteCells l) w := by
  obtain ⟨p, v, hp, h1, h2⟩ := h
  have hne : v.ownBlock ≠ some b := own_ne_cell h2 h1 (by decide)
  have hl : l.length = (Lib.byteCells l).length := by rw [Lib.byteCells_length]
  rw [hl] at h2
  rcases hp with rfl | rfl
  · exact .inl (Lib.BuilderAtF.of ⟨Nat.le_refl _, v, h1, h2, hne⟩)
  · exact .inr (Lib.BuilderAtF.of ⟨Nat.le_refl _, v, h1, h2, hne⟩)
theorem Bld.fresh (h : w.heap[b]? = some (.cells #[.pointer none, .slice none 0 0] 47 (0, 0))) : Bld w b [] :=
  ⟨_, _, .inl rfl, h, ⟨by simp [Lib.byteCells], .inl ⟨rfl, rfl⟩⟩⟩
end
section
variable {P : Program} {n : Nat} {Q : Exit → (Nat → Value) → World → Prop} {σ : Nat → Value} {w : World}
variable {ops : Array Oper} {rest : List Oper} {dst : Option Tmp} {ty : TypeId} {ps : String} {af : Array Edge} {g : Option (Nat × Bool)}
theorem WO_appendstr {t u e : TypeId} {x y : Operand} {v : Value} {base m : Nat} {xs : List Value} {l : List UInt8}
    (hg : gOk ops n σ g = true) (hx : ev n σ x = v) (hy : ev n σ y = S l) (ht : P.underlying t = some (.slice e)) (hu : P.underlying u = some .string)
    (hi : (P.info? e).map (fun i => (i.zero, i.size, i.bytes)) = some (some (.int .u8 0), 1, 1)) (hown : w.ownsRow base e 1 v m xs)
    (hb : m + l.length ≤ 140737488355328) (hbase : base ≤ w.heap.size)
    (next : ∀ v' w', w'.ownsRow base e 1 v' (m + l.length) (xs ++ Lib.byteCells l) → w.grownBy w' v.ownBlock → WO P n ops rest Q (updo σ dst v') w') :
    WO P n ops (⟨dst, .call { callee := .builtin .append, args := #[x, y], argTypes := #[t, u] }, ty, ps, af, g⟩ :: rest) Q σ w := by
  obtain ⟨i, hi, h'⟩ := Option.map_eq_some_iff.1 hi
  simp only [Prod.mk.injEq] at h'
  obtain ⟨hz, hsize, hby⟩ := h'
  have hs : (⟨l.toArray⟩ : ByteArray).size = l.length := by simp [ByteArray.size]
  obtain ⟨v', w', hr, h2, h3, _⟩ := Lib.run_append_own_string (P := P) w base t u ty e i ht hu hi hz hsize hby v m xs hown ⟨l.toArray⟩ (by unfold maxLen; omega) (by omega) hbase
  rw [hs, Lib.strCells_toArray] at h2
  refine WO_val hg ?_ (next v' w' h2 h3)
  simp only [execOp, resolve, invoke, builtin, Sem.run_bind, Sem.run_pure, Result.andThen_ok, List.map_toArray, List.map_cons, List.map_nil, hx, hy, S, hr]
theorem WO_pnesame {t u te : TypeId} {x y : Operand} {j : TypeInfo} {a : Addr} (hg : gOk ops n σ g = true) (hx : ev n σ x = .pointer (some a)) (hy : ev n σ y = .pointer (some a))
    (hp : P.underlying t = some (.pointer te)) (hte : P.info? te = some j) (next : WO P n ops rest Q (updo σ dst (.bool false)) w) :
    WO P n ops (⟨dst, .binOp .neq t x y u, ty, ps, af, g⟩ :: rest) Q σ w := by
  refine WO_val hg ?_ next
  have h := Lib.run_neq_ptr_same (P := P) w a hp hte
  simp [execOp, hx, hy, h, go_sem]
theorem WO_tounsafe {src d t e : TypeId} {x : Operand} {a : Addr} {j : TypeInfo} {cells : Nat} (hg : gOk ops n σ g = true) (hx : ev n σ x = .pointer (some a)) (hs : P.underlying src = some (.pointer t)) (hd : P.underlying d = some .unsafePointer)
    (ht : P.info? t = some j) (hj : j.size ≠ 0) (hsh : w.shape? a.block = some (e, cells)) (hoff : a.off < cells) (next : WO P n ops rest Q (updo σ dst (.pointer (some a))) w) :
    WO P n ops (⟨dst, .convert src d x, ty, ps, af, g⟩ :: rest) Q σ w := by
  refine WO_val hg ?_ next
  have h := Lib.run_to_unsafe (P := P) w a hs hd ht hj hsh hoff
  simp [execOp, hx, h, go_sem]
theorem WO_fromunsafe {src d u e : TypeId} {x : Operand} {a : Addr} {j : TypeInfo} {cells : Nat} (hg : gOk ops n σ g = true) (hx : ev n σ x = .pointer (some a)) (hs : P.underlying src = some .unsafePointer) (hd : P.underlying d = some (.pointer u))
    (hu : P.info? u = some j) (hsh : w.shape? a.block = some (e, cells)) (hlies : liesAt P P.depth e (cells / P.cellsOf e) a.off u 1 = true) (next : WO P n ops rest Q (updo σ dst (.pointer (some a))) w) :
    WO P n ops (⟨dst, .convert src d x, ty, ps, af, g⟩ :: rest) Q σ w := by
  refine WO_val hg ?_ next
  have h := Lib.run_from_unsafe (P := P) w a hs hd hu hsh hlies
  simp [execOp, hx, h, go_sem]
theorem WO_extern1 {f : FuncId} {x : Operand} {v r : Value} {ts : Array TypeId} (hg : gOk ops n σ g = true) (hx : ev n σ x = v)
    (h : (callFunc f #[v]).run P w = .ok (.value r) w) (next : WO P n ops rest Q (updo σ dst r) w) :
    WO P n ops (⟨dst, .call { callee := .value (.func f), args := #[x], argTypes := ts }, ty, ps, af, g⟩ :: rest) Q σ w := by
  refine WO_val hg ?_ next
  have e : (#[x] : Array Operand).map (ev n σ) = #[v] := by simp [hx]
  simp only [execOp, resolve, ev, e]
  simp [Deferred.ofValue, invoke, go_sem, h]
end
def WS (P : Program) (n : Nat) (ops : Array Oper) (Q : (Nat → Value) → World → Prop) (S0 : World → Prop) (fuel : Nat) (listed : Array Bool) (σ : Nat → Value) (w : World) : Prop :=
  wpAnyH P .any ops (fun e a w => e = .normal ∧ ∃ σ, a = mk n σ ∧ Q σ w) S0 fuel listed (mk n σ) w
section
variable {P : Program} {n : Nat} {σ : Nat → Value} {w : World}
theorem W_orderS {S0 : World → Prop} {Q : Exit → (Nat → Value) → World → Prop} {id : Nat} {l : List Oper} (hm : P.follows .mixedOrders = true)
    (h : ∀ w', Drew w w' → WS P n l.toArray (Q .normal) S0 l.length (Array.replicate l.length false) σ w') : W P n (.region id l.toArray true) Q σ w := by
  unfold W
  refine wp_mono (wp_region_any hm (wpAny_of_held _ _ _ _ (h _ ⟨1, rfl⟩))) ?_
  rintro e a w ⟨rfl, σ', ha, hq⟩
  exact ⟨σ', ha, hq⟩
variable {ops : Array Oper} {Q : (Nat → Value) → World → Prop} {fuel : Nat} {listed : Array Bool} {S0 : World → Prop}
theorem WS_load (hS : S0 w) (i : Nat) {o : Oper} {v : Value} (hi : ops[i]? = some o) (hs : Region.noSelect ops = true) (hf : Region.free .any ops listed i = true) (hr : (Region.ready .any ops listed).contains i = true)
    (hg : gOk ops n σ o.guard = true) (h : ∀ w', S0 w' → (execOp (ev n σ) o).run P w' = .ok (.value v) w') (next : WS P n ops Q S0 fuel (listed.setIfInBounds i true) (updo σ o.dst v) w) : WS P n ops Q S0 (fuel + 1) listed σ w := by
  unfold WS
  refine wpAnyH_take hi hs hf hr (fun c a w h => by cases h.1) (.inl ⟨by rw [wanted_mk]; exact hg, fun w' hw' => by rw [mk_eval]; exact h w' hw'⟩) hS ?_
  rw [mk_put]; exact next
theorem WS_take (hS : S0 w) (i : Nat) {o : Oper} {v : Value} (hi : ops[i]? = some o) (hs : Region.noSelect ops = true) (hf : Region.free .any ops listed i = true) (hr : (Region.ready .any ops listed).contains i = true)
    (hg : gOk ops n σ o.guard = true) (h : ∀ w, (execOp (ev n σ) o).run P w = .ok (.value v) w) (next : WS P n ops Q S0 fuel (listed.setIfInBounds i true) (updo σ o.dst v) w) : WS P n ops Q S0 (fuel + 1) listed σ w :=
  WS_load hS i hi hs hf hr hg (fun w' _ => h w') next
theorem WS_done (hr : Region.ready .any ops listed = []) (h : Q σ w) : WS P n ops Q S0 fuel listed σ w := by
  unfold WS
  exact wpAnyH_done hr ⟨rfl, σ, rfl, h⟩ fuel
theorem WS_only (i : Nat) {o : Oper} (hr : Region.ready .any ops listed = [i]) (hi : ops[i]? = some o)
    (h : WO P n ops [o] (fun e σ' w' => e = .normal ∧ S0 w' ∧ WS P n ops Q S0 fuel (listed.setIfInBounds i true) σ' w') σ w) : WS P n ops Q S0 (fuel + 1) listed σ w := by
  unfold WS
  refine wpAnyH_all hr (by simp) fun j hj => ?_
  obtain rfl : j = i := by simpa using hj
  unfold WO wpList at h
  unfold wpOp
  simp only [hi]
  have ho : ¬ LetsOut (lift n fun e σ' w' => e = .normal ∧ S0 w' ∧ WS P n ops Q S0 fuel (listed.setIfInBounds j true) σ' w') := by
    rintro ⟨a, w, σ', _, h, _⟩; cases h
  have hk : ∀ a w', wpList P ops (lift n fun e σ' w' => e = .normal ∧ S0 w' ∧ WS P n ops Q S0 fuel (listed.setIfInBounds j true) σ' w') [] a w' →
      (S0 w' ∧ wpAnyH P .any ops (fun e a w => e = .normal ∧ ∃ σ, a = mk n σ ∧ Q σ w) S0 fuel (listed.setIfInBounds j true) a w') := by
    rintro a w' ⟨σ', rfl, _, hb, hx⟩; exact ⟨hb, hx⟩
  split at h
  · rename_i hw
    rw [if_pos hw]
    rcases h with h | ⟨_, h⟩
    · exact .inl (wp_two hk (fun c a w hc => by obtain ⟨_, _, hc, _⟩ := hc; cases hc) ho h)
    · exact absurd h ho
  · rename_i hw
    rw [if_neg hw]; exact hk _ _ h
end
end Go.Proofs.YthhacfehjgfpbaaDoor
end
