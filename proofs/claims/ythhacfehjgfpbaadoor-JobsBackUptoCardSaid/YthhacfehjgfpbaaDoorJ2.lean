/- The texts Dep20, Dep21, Dep22, Trip, S1, S2, S3, S4, S5, S6, S7, S8, S9, S10, S11, S12, S13, S14, S15, S16 of the proof, joined. Each says at its theorems what it proves. -/
import Derived.Test.YthhacfehjgfpbaaDoorJ1
import Derived.WalkKit
import Derived.WalkSpells
import Derived.ScopeJumps
import Derived.Orders
import Derived.Recover
import Derived.Laws.CopyRow
import Derived.Below
import Derived.Deep.Quiet
import Derived.Laws.Entries
import Derived.Lib.Strings
import Derived.Laws.AppendOwn
import Derived.Maps.AppendAt
import Derived.Laws.Tables
import Derived.Deep.AppendSrc
set_option linter.unusedSimpArgs false
set_option linter.unusedVariables false
section
namespace Go.Proofs.YthhacfehjgfpbaaDoor
open Go Go.RowKit
theorem en_28 : Enters Tryd.prog 28 := enters_of Tryd.func28 (by kernel_rfl) rfl
theorem en_17 : Enters Tryd.prog 17 := enters_of Tryd.func17 (by kernel_rfl) rfl
theorem en_52 : Enters Tryd.prog 52 := enters_of Tryd.func52 (by kernel_rfl) rfl
theorem en_18 : Enters Tryd.prog 18 := enters_of Tryd.func18 (by kernel_rfl) rfl
theorem shape_of {w : World} {b : Nat} {c : Array Value} {T : TypeId} (h : w.heap[b]? = some (.cells c T (0, 0))) : w.shape? b = some (T, c.size) := by simp [World.shape?, h]
theorem noesc (x : Value) (w : World) : (callFunc 40 #[x]).run Tryd.prog w = .ok (.value x) w := by
 rw [run_callFunc_extern Tryd.func40 (by kernel_rfl) (by kernel_rfl) (by kernel_rfl) (e := Extern.AbiNoEscape.same) (by kernel_rfl), Lib.run_noEscape]; rfl
theorem info_builder : ∃ j, Tryd.prog.info? 47 = some j ∧ j.size ≠ 0 := by
 have h : (Tryd.prog.info? 47).map (fun j => j.size) = some 2 := by kernel_rfl
 obtain ⟨j, hj, hs⟩ := Option.map_eq_some_iff.1 h
 exact ⟨j, hj, by omega⟩
set_option maxHeartbeats 400000 in
set_option maxRecDepth 100000 in
theorem check_fresh (b : Nat) (u : Value) (w : World) (hb : w.heap[b]? = some (.cells #[.pointer none, u] 47 (0, 0))) :
  Calls Tryd.prog 28 #[(.pointer (some ⟨b, 0, none⟩))] w (Ret fun v w' => w'.heap[b]? = some (.cells #[.pointer (some ⟨b, 0, none⟩), u] 47 (0, 0)) ∧ w.grownBy w' (some b)) := by
 obtain ⟨j, hj, hjs⟩ := info_builder
 refine calls_W Tryd.func28 rfl Tryd.ntmps28 ?_
 refine W_seq ?_
 refine W_reg ?_
 refine WO_pure (v := (.pointer (some ⟨b, 0, none⟩))) rfl rfl ?_
 refine WO_pure (v := (.pointer (some ⟨b, 0, none⟩))) rfl rfl ?_
 refine WO_same (v := (.pointer (some ⟨b, 0, none⟩))) rfl (by kernel_rfl) ?_
 refine WO_load (a := ⟨b, 0, none⟩) (v := (.pointer none)) rfl rfl Tryd.underlying44 rfl (cell_of hb rfl) ?_
 refine WO_peql (a := none) rfl rfl rfl Tryd.underlying44 ?_
 refine WO_nil ?_
 refine W_true rfl ?_
 refine W_reg ?_
 refine WO_pure (v := (.pointer (some ⟨b, 0, none⟩))) rfl rfl ?_
 refine WO_pure (v := (.pointer (some ⟨b, 0, none⟩))) rfl rfl ?_
 refine WO_tounsafe (a := ⟨b, 0, none⟩) rfl rfl Tryd.underlying44 Tryd.underlying75 hj hjs (shape_of hb) (by simp) ?_
 refine WO_extern1 (v := .pointer (some ⟨b, 0, none⟩)) rfl rfl (noesc _ _) ?_
 refine WO_fromunsafe (a := ⟨b, 0, none⟩) rfl rfl Tryd.underlying75 Tryd.underlying44 hj (shape_of hb) (by kernel_rfl) ?_
 refine WO_pure (v := (.pointer (some ⟨b, 0, none⟩))) rfl rfl ?_
 refine WO_same (v := (.pointer (some ⟨b, 0, none⟩))) rfl (by kernel_rfl) ?_
 have p1 := hb
 refine WO_store (b := b) (o := 0) (v := (.pointer (some ⟨b, 0, none⟩))) rfl rfl rfl (fun _ => by kernel_rfl) rfl p1 (by simp) (fun w1 u1 => ?_)
 have e1 : w1.heap[b]? = some (.cells #[(.pointer (some ⟨b, 0, none⟩)), u] 47 (0, 0)) := u1.here
 have z1 := u1.size
 refine WO_nil ?_
 refine body_ret0 (fn := Tryd.f28) (by first | exact .inl rfl | exact .inr rfl) rfl ?_
 exact ⟨e1, (grown_upd (grown_refl w _) u1 (by first | (left; omega) | (right; rfl)))⟩
set_option maxHeartbeats 400000 in
set_option maxRecDepth 100000 in
theorem check_used (b : Nat) (u : Value) (w : World) (hb : w.heap[b]? = some (.cells #[.pointer (some ⟨b, 0, none⟩), u] 47 (0, 0))) :
  Calls Tryd.prog 28 #[(.pointer (some ⟨b, 0, none⟩))] w (Ret fun v w' => w'.heap[b]? = some (.cells #[.pointer (some ⟨b, 0, none⟩), u] 47 (0, 0)) ∧ w.grownBy w' (some b)) := by
 obtain ⟨j, hj, hjs⟩ := info_builder
 refine calls_W Tryd.func28 rfl Tryd.ntmps28 ?_
 refine W_seq ?_
 refine W_reg ?_
 refine WO_pure (v := (.pointer (some ⟨b, 0, none⟩))) rfl rfl ?_
 refine WO_pure (v := (.pointer (some ⟨b, 0, none⟩))) rfl rfl ?_
 refine WO_same (v := (.pointer (some ⟨b, 0, none⟩))) rfl (by kernel_rfl) ?_
 refine WO_load (a := ⟨b, 0, none⟩) (v := (.pointer (some ⟨b, 0, none⟩))) rfl rfl Tryd.underlying44 rfl (cell_of hb rfl) ?_
 refine WO_peql (a := (some ⟨b, 0, none⟩)) rfl rfl rfl Tryd.underlying44 ?_
 refine WO_nil ?_
 refine W_false rfl ?_
 refine W_seq ?_
 refine W_reg ?_
 refine WO_pure (v := (.pointer (some ⟨b, 0, none⟩))) rfl rfl ?_
 refine WO_pure (v := (.pointer (some ⟨b, 0, none⟩))) rfl rfl ?_
 refine WO_same (v := (.pointer (some ⟨b, 0, none⟩))) rfl (by kernel_rfl) ?_
 refine WO_load (a := ⟨b, 0, none⟩) (v := (.pointer (some ⟨b, 0, none⟩))) rfl rfl Tryd.underlying44 rfl (cell_of hb rfl) ?_
 refine WO_pure (v := (.pointer (some ⟨b, 0, none⟩))) rfl rfl ?_
 refine WO_pnesame (a := ⟨b, 0, none⟩) rfl rfl rfl Tryd.underlying44 hj ?_
 refine WO_nil ?_
 refine W_false rfl ?_
 refine W_skip ?_
 refine body_ret0 (fn := Tryd.f28) (by first | exact .inl rfl | exact .inr rfl) rfl ?_
 exact ⟨hb, (grown_refl w _)⟩
theorem copy_any (b : Nat) (p u : Value) (w : World) (hp : p = .pointer none ∨ p = .pointer (some ⟨b, 0, none⟩)) (hb : w.heap[b]? = some (.cells #[p, u] 47 (0, 0))) : Calls Tryd.prog 28 #[.pointer (some ⟨b, 0, none⟩)] w (Ret fun v w' => w'.heap[b]? = some (.cells #[.pointer (some ⟨b, 0, none⟩), u] 47 (0, 0)) ∧ w.grownBy w' (some b)) := by
 rcases hp with rfl | rfl
 ·exact check_fresh b u w hb
 ·exact check_used b u w hb
set_option maxHeartbeats 400000 in
set_option maxRecDepth 100000 in
theorem writeString_step (b : Nat) (p u : Value) (l s : List UInt8) (w : World) (hp : p = .pointer none ∨ p = .pointer (some ⟨b, 0, none⟩)) (hb : w.heap[b]? = some (.cells #[p, u] 47 (0, 0))) (ho : w.ownsRow b 5 1 u l.length (Lib.byteCells l)) (hl : l.length + s.length ≤ 140737488355328) :
  Calls Tryd.prog 17 #[(.pointer (some ⟨b, 0, none⟩)), (S s)] w (Ret fun v w' => Bld w' b (l ++ s) ∧ Kept b w w') := by
 have hbl := heap_lt hb
 have hne2 : u.ownBlock = none ∨ u.ownBlock ≠ some b := .inr (own_ne_cell ho hb (by decide))
 refine calls_W Tryd.func17 rfl Tryd.ntmps17 ?_
 refine W_seq ?_
 refine W_reg ?_
 refine WO_pure (v := (.int .i64 0)) rfl rfl ?_
 refine WO_pure (v := (.nilIface)) rfl rfl ?_
 refine WO_nil ?_
 refine W_seq ?_
 refine W_reg ?_
 refine WO_pure (v := (.pointer (some ⟨b, 0, none⟩))) rfl rfl ?_
 refine WO_call rfl (by exact en_28) (copy_any b p u _ hp hb) ?_
 rintro _ wc ⟨hc1, hc2⟩
 have zc := hc2.size
 refine WO_nil ?_
 refine W_seq ?_
 refine W_reg ?_
 refine WO_pure (v := (.pointer (some ⟨b, 0, none⟩))) rfl rfl ?_
 refine WO_pure (v := (.pointer (some ⟨b, 0, none⟩))) rfl rfl ?_
 refine WO_pure (v := (.pointer (some ⟨b, 0, none⟩))) rfl rfl ?_
 refine WO_same (v := (.pointer (some ⟨b, 1, none⟩))) rfl (by kernel_rfl) ?_
 refine WO_load (a := ⟨b, 1, none⟩) (v := u) rfl rfl Tryd.underlying45 rfl (cell_of hc1 rfl) ?_
 refine WO_pure (v := (S s)) rfl rfl ?_
 have o1a := (World.ownsRow.kept ho hc2 (by first | assumption | (right; intro e; have := (ho.lt _ e).1; omega) | simp_all))
 refine WO_appendstr (v := u) (base := b) (l := s) rfl rfl rfl Tryd.underlying45 Tryd.underlying9 (by kernel_rfl) o1a (by omega) (by omega) (fun a1 w1 o1 g1 => ?_)
 have z1 := g1.size
 refine WO_pure (v := (.pointer (some ⟨b, 0, none⟩))) rfl rfl ?_
 refine WO_same (v := (.pointer (some ⟨b, 1, none⟩))) rfl (by kernel_rfl) ?_
 have p2 := (grown_keep g1 hc1 (cell_ne_own o1a hc1 (by decide)))
 refine WO_store (b := b) (o := 1) (v := a1) rfl rfl rfl (fun _ => by kernel_rfl) (oneC_owned o1) p2 (by simp) (fun w2 u2 => ?_)
 have e2 : w2.heap[b]? = some (.cells #[(.pointer (some ⟨b, 0, none⟩)), a1] 47 (0, 0)) := u2.here
 have z2 := u2.size
 refine WO_nil ?_
 refine W_seq ?_
 refine W_reg ?_
 refine WO_pure (v := (S s)) rfl rfl ?_
 refine WO_slen (l := s) rfl rfl Tryd.underlying9 ?_
 refine WO_pure (v := (.int .i64 ((s.length : Int)))) rfl rfl ?_
 refine WO_pure (v := (.nilIface)) rfl rfl ?_
 refine WO_nil ?_
 refine W_ret ?_
 refine body_ret2 rfl (v0 := (.int .i64 ((s.length : Int)))) (v1 := (.nilIface)) rfl rfl ?_
 exact ⟨⟨_, _, .inr rfl, e2, by rw [Lib.byteCells_append, List.length_append]; exact (u2.owns o1 (own_ne_cell o1 p2 (by decide)))⟩, (by first | exact kept_updb (kept_own (kept_grown (Kept.refl b w) hc2 (by omega)) o1a g1 (by omega)) u2 | exact kept_updo (kept_own (kept_grown (Kept.refl b w) hc2 (by omega)) o1a g1 (by omega)) u2 (by omega))⟩
set_option maxHeartbeats 400000 in
set_option maxRecDepth 100000 in
theorem writeByte_step (b : Nat) (p u : Value) (l : List UInt8) (c : UInt8) (w : World) (hp : p = .pointer none ∨ p = .pointer (some ⟨b, 0, none⟩)) (hb : w.heap[b]? = some (.cells #[p, u] 47 (0, 0))) (ho : w.ownsRow b 5 1 u l.length (Lib.byteCells l)) (hl : l.length + 1 ≤ 140737488355328) :
  Calls Tryd.prog 52 #[(.pointer (some ⟨b, 0, none⟩)), (.int .u8 ((c.toNat : Int)))] w (Ret fun v w' => Bld w' b (l ++ [c]) ∧ Kept b w w') := by
 have hbl := heap_lt hb
 have hne2 : u.ownBlock = none ∨ u.ownBlock ≠ some b := .inr (own_ne_cell ho hb (by decide))
 refine calls_W Tryd.func52 rfl Tryd.ntmps52 ?_
 refine W_seq ?_
 refine W_reg ?_
 refine WO_pure (v := (.nilIface)) rfl rfl ?_
 refine WO_nil ?_
 refine W_seq ?_
 refine W_reg ?_
 refine WO_pure (v := (.pointer (some ⟨b, 0, none⟩))) rfl rfl ?_
 refine WO_call rfl (by exact en_28) (copy_any b p u _ hp hb) ?_
 rintro _ wc ⟨hc1, hc2⟩
 have zc := hc2.size
 refine WO_nil ?_
 refine W_seq ?_
 refine W_reg ?_
 refine WO_pure (v := (.pointer (some ⟨b, 0, none⟩))) rfl rfl ?_
 refine WO_pure (v := (.pointer (some ⟨b, 0, none⟩))) rfl rfl ?_
 refine WO_pure (v := (.pointer (some ⟨b, 0, none⟩))) rfl rfl ?_
 refine WO_same (v := (.pointer (some ⟨b, 1, none⟩))) rfl (by kernel_rfl) ?_
 refine WO_load (a := ⟨b, 1, none⟩) (v := u) rfl rfl Tryd.underlying45 rfl (cell_of hc1 rfl) ?_
 refine WO_pure (v := (.int .u8 ((c.toNat : Int)))) rfl rfl ?_
 refine WO_bslice (k := 1) (cs := #[(.int .u8 ((c.toNat : Int)))]) (e := 5) rfl (fun _ => by kernel_rfl) (fun w1 n1 => ?_)
 have e1 : w1.heap[wc.heap.size]? = some (.cells #[(.int .u8 ((c.toNat : Int)))] 5 (0, 0)) := n1.here
 have z1 := n1.size
 have o1 := n1.owned (base := b) (size := 1) (k := 1) (by omega) (by omega) rfl
 have o2a := (n1.owns (World.ownsRow.kept ho hc2 (by first | assumption | (right; intro e; have := (ho.lt _ e).1; omega) | simp_all)))
 refine WO_append1 (v := u) (sz := 1) (base := b) (bytes := 1) rfl rfl rfl Tryd.underlying45 (by kernel_rfl) (by decide) o2a rfl e1 (by simp [Value.oneCell']) (by omega) (by omega) (by omega) (fun a2 w2 o2 g2 y2 => ?_)
 have z2 := g2.size
 refine WO_pure (v := (.pointer (some ⟨b, 0, none⟩))) rfl rfl ?_
 refine WO_same (v := (.pointer (some ⟨b, 1, none⟩))) rfl (by kernel_rfl) ?_
 have p3 := (grown_keep g2 (n1.keep hc1) (cell_ne_own o2a (n1.keep hc1) (by decide)))
 refine WO_store (b := b) (o := 1) (v := a2) rfl rfl rfl (fun _ => by kernel_rfl) (oneC_owned o2) p3 (by simp) (fun w3 u3 => ?_)
 have e3 : w3.heap[b]? = some (.cells #[(.pointer (some ⟨b, 0, none⟩)), a2] 47 (0, 0)) := u3.here
 have z3 := u3.size
 refine WO_nil ?_
 refine W_seq ?_
 refine W_reg ?_
 refine WO_pure (v := (.nilIface)) rfl rfl ?_
 refine WO_nil ?_
 refine W_ret ?_
 refine body_ret1 rfl (v0 := (.nilIface)) rfl ?_
 exact ⟨⟨_, _, .inr rfl, e3, by rw [Lib.byteCells_append, List.length_append]; exact (u3.owns o2 (own_ne_cell o2 p3 (by decide)))⟩, (by first | exact kept_updb (kept_own (kept_ext (kept_grown (Kept.refl b w) hc2 (by omega)) n1.ext (by omega)) o2a g2 (by omega)) u3 | exact kept_updo (kept_own (kept_ext (kept_grown (Kept.refl b w) hc2 (by omega)) n1.ext (by omega)) o2a g2 (by omega)) u3 (by omega))⟩
theorem writeString_any {b : Nat} {l : List UInt8} {w : World} (s : List UInt8) (h : Bld w b l) (hl : l.length + s.length ≤ 140737488355328) : Calls Tryd.prog 17 #[.pointer (some ⟨b, 0, none⟩), S s] w (Ret fun v w' => Bld w' b (l ++ s) ∧ Kept b w w') := by
 obtain ⟨p, u, hp, hb, ho⟩ := h
 exact writeString_step b p u l s w hp hb ho hl
theorem writeByte_any {b : Nat} {l : List UInt8} {w : World} (c : UInt8) (h : Bld w b l) (hl : l.length + 1 ≤ 140737488355328) : Calls Tryd.prog 52 #[.pointer (some ⟨b, 0, none⟩), .int .u8 (c.toNat : Int)] w (Ret fun v w' => Bld w' b (l ++ [c]) ∧ Kept b w w') := by
 obtain ⟨p, u, hp, hb, ho⟩ := h
 exact writeByte_step b p u l c w hp hb ho hl
theorem string_any {b : Nat} {l : List UInt8} {w : World} (h : Bld w b l) : Calls Tryd.prog 18 #[.pointer (some ⟨b, 0, none⟩)] w (Ret fun v w' => v = S l ∧ Kept b w w') :=
 (Tryd.Builder_String_any_k b b l w h.kit (Nat.le_of_lt h.lt)).mono fun _ _ h => ⟨_, h.1, rfl, h.2.2⟩
end Go.Proofs.YthhacfehjgfpbaaDoor
end
section
namespace Go.Proofs.YthhacfehjgfpbaaDoor
open Go Go.RowKit
theorem en_38 : Enters Tryd.prog 38 := enters_of Tryd.func38 (by kernel_rfl) rfl
theorem en_22 : Enters Tryd.prog 22 := enters_of Tryd.func22 (by kernel_rfl) rfl
def wordN (k : Int) (i : Nat) : List UInt8 := if k = 4 ∧ i = 2 then [101, 108, 115, 101] else nth wordsL k.toNat
def sepN (k : Int) (i : Nat) : List UInt8 := if 0 < i then [32] ++ wordN k i ++ [32] else []
mutual
def textN : DepT → List UInt8
 | .mk k nm op ev args => if k = 1 then (if 0 < op then nm ++ ([32] ++ nth signsL op.toNat ++ [32] ++ ev) else nm) else [40] ++ joinN k 0 args ++ [41]
def joinN (k : Int) : Nat → List DepT → List UInt8
 | _, [] => []
 | i, a :: r => sepN k i ++ textN a ++ joinN k (i + 1) r
end
theorem word_len (j : Nat) : (nth wordsL j).length ≤ 7 := by
 match j with
 | 0 | 1 | 2 | 3 | 4 | 5 | 6 => decide
 | j + 7 => show ([] : List UInt8).length ≤ 7; decide
theorem sepN_len (k : Int) (i : Nat) : (sepN k i).length ≤ 9 := by
 unfold sepN wordN
 split
 ·split
  ·decide
  ·have := word_len k.toNat
   simp only [List.length_append, List.length_cons, List.length_nil]; omega
 ·simp
theorem sign_len (j : Nat) : (nth signsL j).length ≤ 3 := by
 match j with
 | 0 | 1 | 2 | 3 | 4 | 5 | 6 | 7 => decide
 | j + 8 => show ([] : List UInt8).length ≤ 3; decide
mutual
theorem textN_len : ∀ d : DepT, (textN d).length + 9 ≤ 16 * d.size
 | .mk k nm op ev args => by
  unfold textN DepT.size
  have h1 := joinN_len k 0 args
  have h2 := sign_len op.toNat
  split
  ·split
   ·simp only [List.length_append, List.length_cons, List.length_nil]; omega
   ·omega
  ·simp only [List.length_append, List.length_cons, List.length_nil]; omega
theorem joinN_len : ∀ (k : Int) (i : Nat) (l : List DepT), (joinN k i l).length ≤ 16 * argsSize l
 | k, i, [] => by simp [joinN]
 | k, i, a :: r => by
  unfold joinN argsSize
  have h1 := textN_len a
  have h2 := joinN_len k (i + 1) r
  have h3 := sepN_len k i
  simp only [List.length_append]; omega
end
theorem joinN_snoc (k : Int) : ∀ (j : Nat) (l : List DepT) (a : DepT), joinN k j (l ++ [a]) = joinN k j l ++ (sepN k (j + l.length) ++ textN a)
 | j, [], a => by simp [joinN]
 | j, x :: r, a => by
  rw [List.cons_append, joinN, joinN_snoc k (j + 1) r a, joinN]
  simp only [List.length_cons, List.append_assoc, show j + 1 + r.length = j + (r.length + 1) by omega]
theorem take_snoc {l : List DepT} {i : Nat} (h : i < l.length) : l.take (i + 1) = l.take i ++ [nth l i] := by
 rw [List.take_add_one, nth_eq h]; rfl
theorem joinN_take {k : Int} {l : List DepT} {i : Nat} (h : i < l.length) : joinN k 0 (l.take (i + 1)) = joinN k 0 (l.take i) ++ (sepN k i ++ textN (nth l i)) := by
 rw [take_snoc h, joinN_snoc, List.length_take, Nat.zero_add, Nat.min_eq_left (by omega)]
theorem sepN_else {k : Int} {i : Nat} (h : 0 < i) (h4 : k = 4 ∧ i = 2) : sepN k i = [32] ++ [101, 108, 115, 101] ++ [32] := by unfold sepN wordN; rw [if_pos h, if_pos h4]
theorem sepN_word {k : Int} {i : Nat} (h : 0 < i) (h4 : ¬ (k = 4 ∧ i = 2)) : sepN k i = [32] ++ nth wordsL k.toNat ++ [32] := by unfold sepN wordN; rw [if_pos h, if_neg h4]
theorem sepN_zero {k : Int} {i : Nat} (h : ¬ 0 < i) : sepN k i = [] := by unfold sepN; rw [if_neg h]
theorem argsSize_mono (l : List DepT) (i : Nat) : argsSize (l.take i) ≤ argsSize l := by
 induction l generalizing i with
 | nil => simp
 | cons d r ih =>
  cases i with
  | zero => simp [argsSize]
  | succ i => have := ih i; simp only [List.take_succ_cons, argsSize]; omega
theorem argsSize_take' {l : List DepT} {i : Nat} : i < l.length → argsSize (l.take i) + (nth l i).size ≤ argsSize l := fun h => argsSize_take h
theorem argsForm_nth {k : Int} : ∀ {l : List DepT} {i : Nat}, argsForm k l = true → i < l.length → formB (nth l i) = true
 | [], i, _, h => by simp at h
 | d :: r, i, h, hi => by
  unfold argsForm at h
  simp only [Bool.and_eq_true] at h
  cases i with
  | zero => exact h.2.1
  | succ i => exact argsForm_nth (l := r) h.2.2 (by simpa using hi)
theorem form_nm {k op : Int} {nm ev : List UInt8} {args : List DepT} (h : formB (.mk k nm op ev args) = true) (hk : k = 1) : 0 ≤ op ∧ op ≤ 7 ∧ args = [] ∧ nameB nm = true ∧ (op = 0 → ev = []) ∧ (op ≠ 0 → evrE ev = 0) := by
 unfold formB at h
 rw [if_pos hk] at h
 unfold formName at h
 simp only [Bool.and_eq_true, decide_eq_true_eq] at h
 obtain ⟨h1, h2, h3, h4, h5⟩ := h
 refine ⟨h2, h3, List.length_eq_zero_iff.1 h4, h1, fun e => ?_, fun e => ?_⟩
 ·rw [if_pos e] at h5; simpa using h5
 ·rw [if_neg e] at h5; simpa using h5
theorem form_args {k op : Int} {nm ev : List UInt8} {args : List DepT} (h : formB (.mk k nm op ev args) = true) (hk : k ≠ 1) : 2 ≤ k ∧ k ≤ 6 ∧ nm = [] ∧ op = 0 ∧ ev = [] ∧ 2 ≤ args.length ∧ (k = 4 → args.length ≤ 3) ∧ (k = 6 → args.length ≤ 2) ∧ argsForm k args = true := by
 unfold formB at h
 rw [if_neg hk] at h
 simp only [Bool.and_eq_true, formBad, Bool.not_eq_true', decide_eq_false_iff_not, not_or, Decidable.not_not] at h
 obtain ⟨⟨⟨h1, h2, h3, h4, h5, h6⟩, h7, h8⟩, h9⟩ := h
 refine ⟨by omega, by omega, h3, h4, h5, by omega, fun e => ?_, fun e => ?_, h9⟩
 ·exact Nat.le_of_not_lt fun x => h7 ⟨e, x⟩
 ·exact Nat.le_of_not_lt fun x => h8 ⟨e, x⟩
def PrintSaid (d : DepT) : Prop := ∀ (u w : World) (cs : List Value) (b : Nat) (l : List UInt8), DepC u d cs → Below u.heap.size u w → u.heap.size ≤ b → Bld w b l → formB d = true → d.size ≤ 4194304 → l.length + 16 * d.size ≤ 140737488355328 →
 Calls Tryd.prog 38 #[.pointer (some ⟨b, 0, none⟩), .agg cs.toArray] w (Ret fun v w' => Bld w' b (l ++ textN d) ∧ Kept b w w')
set_option maxHeartbeats 2000000 in
set_option maxRecDepth 100000 in
theorem print_step (k op : Nat) (nm ev : List UInt8) (args : List DepT) (sv : Value) (css : List (List Value)) (u w : World) (b : Nat) (l : List UInt8) (hr : RowIs u sv args.length 5 css.flatten) (ha : ArgsC u args css) (hu : Below u.heap.size u w) (hub : u.heap.size ≤ b) (hB : Bld w b l) (hf : formB (.mk k nm op ev args) = true) (hs : argsSize args + 1 + nm.length + ev.length ≤ 4194304) (hl : l.length + 16 * (argsSize args + 1 + nm.length + ev.length) ≤ 140737488355328) (ih : ∀ i, i < args.length → PrintSaid (nth args i)) :
  Calls Tryd.prog 38 #[(.pointer (some ⟨b, 0, none⟩)), (.agg #[(.int .i64 ((k : Int))), (S nm), (.int .i64 ((op : Int))), (S ev), sv])] w (Ret fun v w' => Bld w' b (l ++ textN (.mk k nm op ev args)) ∧ Kept b w w') := by
 have hal := argsSize_len args
 have hbl := hB.lt
 have hus := hu.size
 have hsl := sign_len op
 have hwl := word_len k
 refine calls_W Tryd.func38 rfl Tryd.ntmps38 ?_
 refine W_seq ?_
 refine W_reg ?_
 refine WO_box (v := (.agg #[(.int .i64 ((k : Int))), (S nm), (.int .i64 ((op : Int))), (S ev), sv])) rfl rfl (fun w1 n1 => ?_)
 have e1 : w1.heap[w.heap.size]? = some (.cells #[(.int .i64 ((k : Int))), (S nm), (.int .i64 ((op : Int))), (S ev), sv] 39 (0, 0)) := n1.here
 have z1 := n1.size
 refine WO_nil ?_
 refine W_seq ?_
 refine W_seq ?_
 refine W_reg ?_
 refine WO_same (v := (.pointer (some ⟨w.heap.size, 0, none⟩))) rfl (by kernel_rfl) ?_
 refine WO_load (a := ⟨w.heap.size, 0, none⟩) (v := (.int .i64 ((k : Int)))) rfl rfl Tryd.underlying3 rfl (cell_of e1 rfl) ?_
 refine WO_pure (v := (.bool (decide ((k : Int) = 1)))) rfl rfl ?_
 refine WO_nil ?_
 refine W_if (p := (k : Int) = 1) rfl (fun c1 => ?_) (fun c1 => ?_)
 ·refine W_seq ?_
  refine W_reg ?_
  have hfn := form_nm hf c1
  have hop := hfn.1
  have hop7 := hfn.2.1
  refine WO_pure (v := (.pointer (some ⟨b, 0, none⟩))) rfl rfl ?_
  refine WO_same (v := (.pointer (some ⟨w.heap.size, 1, none⟩))) rfl (by kernel_rfl) ?_
  refine WO_load (a := ⟨w.heap.size, 1, none⟩) (v := (S nm)) rfl rfl Tryd.underlying9 rfl (cell_of e1 rfl) ?_
  refine WO_call rfl (by exact en_17) (writeString_any (l := l) nm (Bld.ext hB (n1.below (Below.refl w.heap.size w) (Below.refl w.heap.size w).size)) (by first | omega | (simp only [List.length_append, List.length_cons, List.length_nil]; omega))) ?_
  rintro _ ws2 ⟨hs2, ks2⟩
  have zs2 := ks2.size
  refine WO_nil ?_
  refine W_seq ?_
  refine W_seq ?_
  refine W_reg ?_
  refine WO_same (v := (.pointer (some ⟨w.heap.size, 2, none⟩))) rfl (by kernel_rfl) ?_
  refine WO_load (a := ⟨w.heap.size, 2, none⟩) (v := (.int .i64 ((op : Int)))) rfl rfl Tryd.underlying3 rfl (cell_of (kept_keep' ks2 e1 (by decide) (by omega)) rfl) ?_
  refine WO_pure (v := (.bool (decide (0 < (op : Int))))) rfl rfl ?_
  refine WO_nil ?_
  refine W_if (p := 0 < (op : Int)) rfl (fun c2 => ?_) (fun c2 => ?_)
  ·refine W_orderS (by kernel_rfl) (S0 := fun w' => w'.heap[w.heap.size]? = some (.cells #[(.int .i64 ((k : Int))), (S nm), (.int .i64 ((op : Int))), (S ev), sv] 39 (0, 0))) (fun w3 d3 => ?_)
   have z3 := d3.ext.size
   refine WS_take (drew_keep d3 (kept_keep' ks2 e1 (by decide) (by omega))) 0 rfl (by kernel_rfl) (by kernel_rfl) (by kernel_rfl) rfl (fun _ => pure_run (v := (.pointer (some ⟨b, 0, none⟩))) rfl) ?_
   refine WS_take (drew_keep d3 (kept_keep' ks2 e1 (by decide) (by omega))) 2 rfl (by kernel_rfl) (by kernel_rfl) (by kernel_rfl) rfl (v := (.pointer (some ⟨w.heap.size, 2, none⟩))) (fun _ => by kernel_rfl) ?_
   refine WS_load (drew_keep d3 (kept_keep' ks2 e1 (by decide) (by omega))) 3 rfl (by kernel_rfl) (by kernel_rfl) (by kernel_rfl) rfl (fun wq bq => R_load (a := ⟨w.heap.size, 2, none⟩) (v := (.int .i64 ((op : Int)))) rfl Tryd.underlying3 rfl (cell_of bq rfl)) ?_
   refine WS_take (drew_keep d3 (kept_keep' ks2 e1 (by decide) (by omega))) 8 rfl (by kernel_rfl) (by kernel_rfl) (by kernel_rfl) rfl (v := (.pointer (some ⟨w.heap.size, 3, none⟩))) (fun _ => by kernel_rfl) ?_
   refine WS_load (drew_keep d3 (kept_keep' ks2 e1 (by decide) (by omega))) 9 rfl (by kernel_rfl) (by kernel_rfl) (by kernel_rfl) rfl (fun wq bq => R_load (a := ⟨w.heap.size, 3, none⟩) (v := (S ev)) rfl Tryd.underlying9 rfl (cell_of bq rfl)) ?_
   refine WS_only 1 (by kernel_rfl) rfl ?_
   refine WO_call rfl (by exact en_24) (signs_any _) ?_
   rintro v4 w4 ⟨r4, h4⟩
   have z4 := h4.size
   refine WO_nil ⟨rfl, (below_keep h4 (drew_keep d3 (kept_keep' ks2 e1 (by decide) (by omega)))), ?_⟩
   refine WS_only 4 (by kernel_rfl) rfl ?_
   refine WO_idx1 (v := v4) (f := S) (l := signsL) (i := op) rfl rfl rfl r4 Tryd.underlying32 (fun _ => by kernel_rfl) (by first | rfl | omega) (by first | omega | (simp; done) | (simp; omega)) (fun b5 o5 x5 => ?_)
   refine WO_nil ⟨rfl, (below_keep h4 (drew_keep d3 (kept_keep' ks2 e1 (by decide) (by omega)))), ?_⟩
   refine WS_only 5 (by kernel_rfl) rfl ?_
   refine WO_load (v := (S (nth signsL op))) rfl rfl Tryd.underlying9 rfl x5 ?_
   refine WO_nil ⟨rfl, (below_keep h4 (drew_keep d3 (kept_keep' ks2 e1 (by decide) (by omega)))), ?_⟩
   refine WS_take (below_keep h4 (drew_keep d3 (kept_keep' ks2 e1 (by decide) (by omega)))) 6 rfl (by kernel_rfl) (by kernel_rfl) (by kernel_rfl) rfl (fun _ => R_scat (l1 := [32]) (l2 := nth signsL op) rfl rfl (by first | omega | (simp; done) | (simp; omega))) ?_
   refine WS_take (below_keep h4 (drew_keep d3 (kept_keep' ks2 e1 (by decide) (by omega)))) 7 rfl (by kernel_rfl) (by kernel_rfl) (by kernel_rfl) rfl (fun _ => R_scat (l1 := ([32]) ++ (nth signsL op)) (l2 := [32]) rfl rfl (by first | omega | (simp; done) | (simp; omega))) ?_
   refine WS_take (below_keep h4 (drew_keep d3 (kept_keep' ks2 e1 (by decide) (by omega)))) 10 rfl (by kernel_rfl) (by kernel_rfl) (by kernel_rfl) rfl (fun _ => R_scat (l1 := (([32]) ++ (nth signsL op)) ++ ([32])) (l2 := ev) rfl rfl (by first | omega | (simp; done) | (simp; omega))) ?_
   refine WS_only 11 (by kernel_rfl) rfl ?_
   refine WO_call rfl (by exact en_17) (writeString_any (l := (l ++ nm)) (((([32]) ++ (nth signsL op)) ++ ([32])) ++ ev) (Bld.ext hs2 (below_ext (d3.below (Below.refl ws2.heap.size ws2)) h4)) (by first | omega | (simp only [List.length_append, List.length_cons, List.length_nil]; omega))) ?_
   rintro _ ws6 ⟨hs6, ks6⟩
   have zs6 := ks6.size
   refine WO_nil ⟨rfl, (kept_keep' ks6 (below_keep h4 (drew_keep d3 (kept_keep' ks2 e1 (by decide) (by omega)))) (by decide) (by omega)), ?_⟩
   refine WS_done (by kernel_rfl) ?_
   refine W_ret ?_
   refine body_ret0 (fn := Tryd.f38) (by first | exact .inl rfl | exact .inr rfl) rfl ?_
   refine ⟨?_, (Kept.trans (kept_ext (kept_ext (Kept.trans (kept_ext (Kept.refl b w) n1.ext (by omega)) ks2) d3.ext (by omega)) h4 (by omega)) ks6)⟩
   have e := hs6
   unfold textN; rw [if_pos c1, if_pos c2]; simpa using e
  ·refine W_skip ?_
   refine W_ret ?_
   refine body_ret0 (fn := Tryd.f38) (by first | exact .inl rfl | exact .inr rfl) rfl ?_
   refine ⟨?_, (Kept.trans (kept_ext (Kept.refl b w) n1.ext (by omega)) ks2)⟩
   have e := hs2
   unfold textN; rw [if_pos c1, if_neg c2]; exact e
 ·refine W_skip ?_
  refine W_seq ?_
  refine W_reg ?_
  have hfn := form_args hf c1
  have hk2 := hfn.1
  have hk6 := hfn.2.1
  have hfa := fun i (hi : i < args.length) => argsForm_nth hfn.2.2.2.2.2.2.2.2 hi
  refine WO_pure (v := (.pointer (some ⟨b, 0, none⟩))) rfl rfl ?_
  refine WO_call rfl (by exact en_52) (writeByte_any (l := l) 40 (Bld.ext hB (n1.below (Below.refl w.heap.size w) (Below.refl w.heap.size w).size)) (by first | omega | (simp only [List.length_append, List.length_cons, List.length_nil]; omega))) ?_
  rintro _ ws7 ⟨hs7, ks7⟩
  have zs7 := ks7.size
  refine WO_nil ?_
  refine W_seq ?_
  refine W_seq ?_
  refine W_reg ?_
  refine WO_same (v := (.pointer (some ⟨w.heap.size, 4, none⟩))) rfl (by kernel_rfl) ?_
  refine WO_load (a := ⟨w.heap.size, 4, none⟩) (v := sv) rfl rfl Tryd.underlying37 rfl (cell_of (kept_keep' ks7 e1 (by decide) (by omega)) rfl) ?_
  refine WO_lenrow (v := sv) (m := args.length) (sz := 5) rfl rfl (hr.ext (kept_bel (n1.below (below_ext (Below.refl u.heap.size u) hu) (below_ext (Below.refl u.heap.size u) hu).size) ks7 (by omega))) Tryd.underlying37 ?_
  refine WO_pure (v := (.int .i64 0)) rfl rfl ?_
  refine WO_nil ?_
  refine W_block ?_
  refine W_loop (fun g σ' w' => ∃ (i : Nat), σ' 0 = (.pointer (some ⟨b, 0, none⟩)) ∧ σ' 3 = (.pointer (some ⟨w.heap.size, 0, none⟩)) ∧ σ' 32 = sv ∧ σ' 33 = (.int .i64 ((args.length : Int))) ∧ σ' 34 = (.int .i64 ((i : Int))) ∧ w'.heap[w.heap.size]? = some (.cells #[(.int .i64 ((k : Int))), (S nm), (.int .i64 ((op : Int))), (S ev), sv] 39 (0, 0)) ∧ i ≤ args.length ∧ Kept b w w' ∧ Bld w' b (l ++ [40] ++ joinN k 0 (args.take i)) ∧ g = args.length - i) ?_ ?_
  ·refine ⟨_, 0, rfl, rfl, rfl, rfl, rfl, (kept_keep' ks7 e1 (by decide) (by omega)), ?_, ?_, ?_, rfl⟩
   ·omega
   ·exact (Kept.trans (kept_ext (Kept.refl b w) n1.ext (by omega)) ks7)
   ·simpa [joinN] using hs7
  ·rintro g σl1 wl1 ⟨i, l1_0, l1_3, l1_32, l1_33, l1_34, k1_1, f1_1, f1_2, f1_3, rfl⟩
   refine W_anchor (d := 0) l1_0 (W_anchor (d := 3) l1_3 (W_anchor (d := 32) l1_32 (W_anchor (d := 33) l1_33 (W_anchor (d := 34) l1_34 (?_)))))
   have zf := f1_2.size
   have zk := heap_lt k1_1
   have hjl := joinN_len k 0 (args.take i)
   have hjt := argsSize_take' (l := args) (i := i)
   have hjm := argsSize_mono args i
   refine W_seq ?_
   refine W_reg ?_
   refine WO_pure (v := (.bool (decide ((i : Int) < (args.length : Int))))) rfl rfl ?_
   refine WO_nil ?_
   refine W_seq ?_
   refine W_if (p := (i : Int) < (args.length : Int)) rfl (fun c3 => ?_) (fun c3 => ?_)
   ·refine W_skip ?_
    refine W_seq ?_
    refine W_block ?_
    refine W_seq ?_
    refine W_reg ?_
    refine WO_pure (v := (.int .i64 ((i : Int)))) rfl rfl ?_
    refine WO_idxs (v := sv) (css := css) (i := i) rfl rfl rfl (hr.ext (kept_bel (below_ext (Below.refl u.heap.size u) hu) f1_2 (by omega))) ha.each ha.len Tryd.underlying37 (fun _ => by kernel_rfl) (by first | rfl | omega) (by first | omega | (simp; done) | (simp; omega)) (fun b8 o8 x8 => ?_)
    refine WO_loads (vs := nth css i) (sz := 5) rfl rfl Tryd.underlying39 rfl (ha.each _ (nth_mem (by rw [ha.len]; omega))) (fun _ => by kernel_rfl) x8 ?_
    obtain ⟨ki, nmi, opi, evi, svi, bsi, csi, hxi, hri, hdi, hai⟩ := ArgsC.five ha (show i < args.length by omega)
    refine WO_eq 38 (v := .agg (nth css i).toArray) (v' := .agg #[.int .i64 ki, S nmi, .int .i64 opi, S evi, svi]) rfl (by rw [hxi]) ?_
    refine WO_alloc (v := (.agg #[(.int .i64 0), (S []), (.int .i64 0), (S []), (.slice none 0 0)])) rfl (fun _ => by kernel_rfl) (fun w9 n9 => ?_)
    have e9 : w9.heap[wl1.heap.size]? = some (.cells #[(.int .i64 0), (S []), (.int .i64 0), (S []), (.slice none 0 0)] 39 (0, 0)) := n9.here
    have z9 := n9.size
    refine WO_pure (v := (.int .i64 ((i : Int)))) rfl rfl ?_
    have p10 := e9
    refine WO_storerow (b := wl1.heap.size) (o := 0) (c' := #[(.int .i64 ki), (S nmi), (.int .i64 opi), (S evi), svi]) rfl rfl rfl (fun _ => by kernel_rfl) (by rw [Array.all_eq_true_iff_forall_mem]; intro v hv; simp only [List.mem_toArray, List.mem_cons, List.not_mem_nil, or_false] at hv; rcases hv with hv | hv | hv | hv | hv <;> (rw [hv]; first | rfl | exact oneCell_is (hri.ext (n9.below (kept_bel (below_ext (Below.refl u.heap.size u) hu) f1_2 (by omega)) (kept_bel (below_ext (Below.refl u.heap.size u) hu) f1_2 (by omega)).size)))) p10 (by simp) (fun w10 u10 => ?_)
    have e10 : w10.heap[wl1.heap.size]? = some (.cells #[(.int .i64 ki), (S nmi), (.int .i64 opi), (S evi), svi] 39 (0, 0)) := u10.here
    have z10 := u10.size
    refine WO_nil ?_
    refine W_seq ?_
    refine W_orderS (by kernel_rfl) (S0 := fun w' => w'.heap[w.heap.size]? = some (.cells #[(.int .i64 ((k : Int))), (S nm), (.int .i64 ((op : Int))), (S ev), sv] 39 (0, 0))) (fun w11 d11 => ?_)
    have z11 := d11.ext.size
    refine WS_take (drew_keep d11 (u10.keep (n9.keep k1_1) (by first | assumption | omega | (simp; omega)))) 1 rfl (by kernel_rfl) (by kernel_rfl) (by kernel_rfl) rfl (v := (.pointer (some ⟨w.heap.size, 0, none⟩))) (fun _ => by kernel_rfl) ?_
    refine WS_load (drew_keep d11 (u10.keep (n9.keep k1_1) (by first | assumption | omega | (simp; omega)))) 2 rfl (by kernel_rfl) (by kernel_rfl) (by kernel_rfl) rfl (fun wq bq => R_load (a := ⟨w.heap.size, 0, none⟩) (v := (.int .i64 ((k : Int)))) rfl Tryd.underlying3 rfl (cell_of bq rfl)) ?_
    refine WS_only 0 (by kernel_rfl) rfl ?_
    refine WO_call rfl (by exact en_25) (words_any _) ?_
    rintro v12 w12 ⟨r12, h12⟩
    have z12 := h12.size
    refine WO_nil ⟨rfl, (below_keep h12 (drew_keep d11 (u10.keep (n9.keep k1_1) (by first | assumption | omega | (simp; omega))))), ?_⟩
    refine WS_only 3 (by kernel_rfl) rfl ?_
    refine WO_idx1 (v := v12) (f := S) (l := wordsL) (i := k) rfl rfl rfl r12 Tryd.underlying32 (fun _ => by kernel_rfl) (by first | rfl | omega) (by first | omega | (simp; done) | (simp; omega)) (fun b13 o13 x13 => ?_)
    refine WO_nil ⟨rfl, (below_keep h12 (drew_keep d11 (u10.keep (n9.keep k1_1) (by first | assumption | omega | (simp; omega))))), ?_⟩
    refine WS_only 4 (by kernel_rfl) rfl ?_
    refine WO_load (v := (S (nth wordsL k))) rfl rfl Tryd.underlying9 rfl x13 ?_
    refine WO_nil ⟨rfl, (below_keep h12 (drew_keep d11 (u10.keep (n9.keep k1_1) (by first | assumption | omega | (simp; omega))))), ?_⟩
    refine WS_take (below_keep h12 (drew_keep d11 (u10.keep (n9.keep k1_1) (by first | assumption | omega | (simp; omega))))) 5 rfl (by kernel_rfl) (by kernel_rfl) (by kernel_rfl) rfl (fun _ => pure_run (v := (S (nth wordsL k))) rfl) ?_
    refine WS_done (by kernel_rfl) ?_
    refine W_seq ?_
    refine W_cut (fun σ' w' => w12 = w' ∧ σ' 0 = (.pointer (some ⟨b, 0, none⟩)) ∧ σ' 3 = (.pointer (some ⟨w.heap.size, 0, none⟩)) ∧ σ' 4 = (.int .i64 ((i : Int))) ∧ σ' 5 = (.pointer (some ⟨wl1.heap.size, 0, none⟩)) ∧ σ' 6 = (S (nth wordsL k)) ∧ σ' 32 = sv ∧ σ' 33 = (.int .i64 ((args.length : Int))) ∧ σ' 34 = (.int .i64 ((i : Int))) ∧ σ' 50 = (.bool (decide ((k : Int) = 4 ∧ i = 2)))) ?_ ?_
    ·refine W_reg ?_
     refine WO_same (v := (.pointer (some ⟨w.heap.size, 0, none⟩))) rfl (by kernel_rfl) ?_
     refine WO_load (a := ⟨w.heap.size, 0, none⟩) (v := (.int .i64 ((k : Int)))) rfl rfl Tryd.underlying3 rfl (cell_of (below_keep h12 (drew_keep d11 (u10.keep (n9.keep k1_1) (by first | assumption | omega | (simp; omega))))) rfl) ?_
     refine WO_pure (v := (.bool (decide ((k : Int) = 4)))) rfl rfl ?_
     refine WO_pure (v := (.bool (decide ((k : Int) = 4)))) rfl rfl ?_
     refine WO_splitp 47 (p := (k : Int) = 4) (by exact rfl) (fun c4 => ?_) (fun c4 => ?_)
     ·refine WO_pure (v := (.int .i64 ((i : Int)))) rfl rfl ?_
      refine WO_pure (v := (.bool (decide ((i : Int) = 2)))) rfl rfl ?_
      refine WO_pure (v := (.bool (decide ((i : Int) = 2)))) rfl rfl ?_
      refine WO_nil ?_
      exact ⟨rfl, rfl, rfl, rfl, rfl, rfl, rfl, rfl, rfl, (by show ((.bool (decide ((i : Int) = 2))) : Value) = (.bool (decide ((k : Int) = 4 ∧ i = 2))); show Value.bool _ = Value.bool _; rw [Value.bool.injEq, Bool.eq_iff_iff]; first | (simp [c4]; done) | (simp [c4]; omega) | (simp_all []; done) | (simp_all []; omega) | (simp only [Bool.or_eq_true, Bool.and_eq_true, Bool.not_eq_true', decide_eq_true_eq, decide_eq_false_iff_not]; grind))⟩
     ·refine WO_pass rfl ?_
      refine WO_pass rfl ?_
      refine WO_pure (v := (.bool false)) rfl rfl ?_
      refine WO_nil ?_
      exact ⟨rfl, rfl, rfl, rfl, rfl, rfl, rfl, rfl, rfl, (by show ((.bool false) : Value) = (.bool (decide ((k : Int) = 4 ∧ i = 2))); show Value.bool _ = Value.bool _; rw [Value.bool.injEq, Bool.eq_iff_iff]; first | (simp [c4]; done) | (simp [c4]; omega) | (simp_all []; done) | (simp_all []; omega) | (simp only [Bool.or_eq_true, Bool.and_eq_true, Bool.not_eq_true', decide_eq_true_eq, decide_eq_false_iff_not]; grind))⟩
    ·rintro σ1 _ ⟨rfl, h1_0, h1_3, h1_4, h1_5, h1_6, h1_32, h1_33, h1_34, h1_50⟩
     refine W_anchor (d := 0) h1_0 (W_anchor (d := 3) h1_3 (W_anchor (d := 4) h1_4 (W_anchor (d := 5) h1_5 (W_anchor (d := 6) h1_6 (W_anchor (d := 32) h1_32 (W_anchor (d := 33) h1_33 (W_anchor (d := 34) h1_34 (W_anchor (d := 50) h1_50 (?_)))))))))
     refine W_if (p := (k : Int) = 4 ∧ i = 2) rfl (fun c5 => ?_) (fun c5 => ?_)
     ·refine W_reg ?_
      refine WO_pure (v := (S ([101, 108, 115, 101]))) rfl rfl ?_
      refine WO_nil ?_
      refine W_seq ?_
      refine W_seq ?_
      refine W_reg ?_
      refine WO_pure (v := (.int .i64 ((i : Int)))) rfl rfl ?_
      refine WO_pure (v := (.bool (decide (0 < (i : Int))))) rfl rfl ?_
      refine WO_nil ?_
      refine W_if (p := 0 < (i : Int)) rfl (fun c6 => ?_) (fun c6 => ?_)
      ·refine W_reg ?_
       refine WO_pure (v := (.pointer (some ⟨b, 0, none⟩))) rfl rfl ?_
       refine WO_pure (v := (S ([101, 108, 115, 101]))) rfl rfl ?_
       refine WO_scat (l1 := [32]) (l2 := [101, 108, 115, 101]) rfl rfl rfl (by first | omega | (simp; done) | (simp; omega)) ?_
       refine WO_scat (l1 := ([32]) ++ ([101, 108, 115, 101])) (l2 := [32]) rfl rfl rfl (by first | omega | (simp; done) | (simp; omega)) ?_
       refine WO_call rfl (by exact en_17) (writeString_any (l := (l ++ [40] ++ joinN k 0 (args.take i))) ((([32]) ++ ([101, 108, 115, 101])) ++ ([32])) (Bld.ext f1_3 (below_ext (d11.below (u10.below (n9.below (Below.refl wl1.heap.size wl1) (Below.refl wl1.heap.size wl1).size) (by omega))) h12)) (by first | omega | (simp only [List.length_append, List.length_cons, List.length_nil]; omega))) ?_
       rintro _ ws14 ⟨hs14, ks14⟩
       have zs14 := ks14.size
       refine WO_nil ?_
       refine W_reg ?_
       refine WO_pure (v := (.pointer (some ⟨b, 0, none⟩))) rfl rfl ?_
       refine WO_loadrow (b := wl1.heap.size) (o := 0) (m := 5) (c := #[(.int .i64 ki), (S nmi), (.int .i64 opi), (S evi), svi]) rfl rfl Tryd.underlying39 rfl (fun _ => by kernel_rfl) (kept_keep' ks14 (below_keep h12 (drew_keep d11 e10)) (by decide) (by omega)) (by simp) ?_
       refine WO_eq 59 (v' := (.agg #[(.int .i64 ki), (S nmi), (.int .i64 opi), (S evi), svi])) rfl rfl ?_
       refine WO_call rfl (by exact en_38) (ih i (by omega) u _ [.int .i64 ki, S nmi, .int .i64 opi, S evi, svi] b ((l ++ [40] ++ joinN k 0 (args.take i)) ++ ((([32]) ++ ([101, 108, 115, 101])) ++ ([32]))) (by rw [← hxi]; exact ArgsC.at ha i (by omega)) (kept_bel (below_ext (d11.below (u10.below (n9.below (kept_bel (below_ext (Below.refl u.heap.size u) hu) f1_2 (by omega)) (kept_bel (below_ext (Below.refl u.heap.size u) hu) f1_2 (by omega)).size) (by omega))) h12) ks14 (by omega)) hub hs14 (hfa i (by omega)) (by have := argsSize_nth (show i < args.length by omega); omega) (by first | omega | (simp only [List.length_append, List.length_cons, List.length_nil]; omega))) ?_
       rintro _ ws15 ⟨hs15, ks15⟩
       have zs15 := ks15.size
       refine WO_nil ?_
       refine W_reg ?_
       refine WO_add (b := 1) (v := (i : Int) + 1) rfl rfl rfl (by simp only [kLo, kHi]; omega) ?_
       refine WO_pure (v := (.int .i64 ((i : Int) + 1))) rfl rfl ?_
       refine WO_nil ?_
       refine ⟨_, ?_, i + 1, rfl, rfl, rfl, rfl, rfl, (kept_keep' ks15 (kept_keep' ks14 (below_keep h12 (drew_keep d11 (u10.keep (n9.keep k1_1) (by first | assumption | omega | (simp; omega))))) (by decide) (by omega)) (by decide) (by omega)), ?_, ?_, ?_, rfl⟩
       ·omega
       ·omega
       ·exact (Kept.trans (Kept.trans (kept_ext (kept_ext (by first | exact kept_updb (kept_ext (Kept.trans (Kept.refl b w) f1_2) n9.ext (by omega)) u10 | exact kept_updo (kept_ext (Kept.trans (Kept.refl b w) f1_2) n9.ext (by omega)) u10 (by omega)) d11.ext (by omega)) h12 (by omega)) ks14) ks15)
       ·have e := hs15
        rw [joinN_take (show i < args.length by omega)]
        first | rw [sepN_else (k := (k : Int)) (i := i) (by omega) (by omega)] | rw [sepN_word (k := (k : Int)) (i := i) (by omega) (by omega)] | rw [sepN_zero (k := (k : Int)) (i := i) (by omega)]
        first | (simpa only [List.append_assoc, Int.toNat_natCast, List.nil_append] using e) | (exfalso; omega)
      ·refine W_skip ?_
       refine W_reg ?_
       refine WO_pure (v := (.pointer (some ⟨b, 0, none⟩))) rfl rfl ?_
       refine WO_loadrow (b := wl1.heap.size) (o := 0) (m := 5) (c := #[(.int .i64 ki), (S nmi), (.int .i64 opi), (S evi), svi]) rfl rfl Tryd.underlying39 rfl (fun _ => by kernel_rfl) (below_keep h12 (drew_keep d11 e10)) (by simp) ?_
       refine WO_eq 59 (v' := (.agg #[(.int .i64 ki), (S nmi), (.int .i64 opi), (S evi), svi])) rfl rfl ?_
       refine WO_call rfl (by exact en_38) (ih i (by omega) u _ [.int .i64 ki, S nmi, .int .i64 opi, S evi, svi] b (l ++ [40] ++ joinN k 0 (args.take i)) (by rw [← hxi]; exact ArgsC.at ha i (by omega)) (below_ext (d11.below (u10.below (n9.below (kept_bel (below_ext (Below.refl u.heap.size u) hu) f1_2 (by omega)) (kept_bel (below_ext (Below.refl u.heap.size u) hu) f1_2 (by omega)).size) (by omega))) h12) hub (Bld.ext f1_3 (below_ext (d11.below (u10.below (n9.below (Below.refl wl1.heap.size wl1) (Below.refl wl1.heap.size wl1).size) (by omega))) h12)) (hfa i (by omega)) (by have := argsSize_nth (show i < args.length by omega); omega) (by first | omega | (simp only [List.length_append, List.length_cons, List.length_nil]; omega))) ?_
       rintro _ ws16 ⟨hs16, ks16⟩
       have zs16 := ks16.size
       refine WO_nil ?_
       refine W_reg ?_
       refine WO_add (b := 1) (v := (i : Int) + 1) rfl rfl rfl (by simp only [kLo, kHi]; omega) ?_
       refine WO_pure (v := (.int .i64 ((i : Int) + 1))) rfl rfl ?_
       refine WO_nil ?_
       refine ⟨_, ?_, i + 1, rfl, rfl, rfl, rfl, rfl, (kept_keep' ks16 (below_keep h12 (drew_keep d11 (u10.keep (n9.keep k1_1) (by first | assumption | omega | (simp; omega))))) (by decide) (by omega)), ?_, ?_, ?_, rfl⟩
       ·omega
       ·omega
       ·exact (Kept.trans (kept_ext (kept_ext (by first | exact kept_updb (kept_ext (Kept.trans (Kept.refl b w) f1_2) n9.ext (by omega)) u10 | exact kept_updo (kept_ext (Kept.trans (Kept.refl b w) f1_2) n9.ext (by omega)) u10 (by omega)) d11.ext (by omega)) h12 (by omega)) ks16)
       ·have e := hs16
        rw [joinN_take (show i < args.length by omega)]
        first | rw [sepN_else (k := (k : Int)) (i := i) (by omega) (by omega)] | rw [sepN_word (k := (k : Int)) (i := i) (by omega) (by omega)] | rw [sepN_zero (k := (k : Int)) (i := i) (by omega)]
        first | (simpa only [List.append_assoc, Int.toNat_natCast, List.nil_append] using e) | (exfalso; omega)
     ·refine W_skip ?_
      refine W_seq ?_
      refine W_seq ?_
      refine W_reg ?_
      refine WO_pure (v := (.int .i64 ((i : Int)))) rfl rfl ?_
      refine WO_pure (v := (.bool (decide (0 < (i : Int))))) rfl rfl ?_
      refine WO_nil ?_
      refine W_if (p := 0 < (i : Int)) rfl (fun c7 => ?_) (fun c7 => ?_)
      ·refine W_reg ?_
       refine WO_pure (v := (.pointer (some ⟨b, 0, none⟩))) rfl rfl ?_
       refine WO_pure (v := (S (nth wordsL k))) rfl rfl ?_
       refine WO_scat (l1 := [32]) (l2 := nth wordsL k) rfl rfl rfl (by first | omega | (simp; done) | (simp; omega)) ?_
       refine WO_scat (l1 := ([32]) ++ (nth wordsL k)) (l2 := [32]) rfl rfl rfl (by first | omega | (simp; done) | (simp; omega)) ?_
       refine WO_call rfl (by exact en_17) (writeString_any (l := (l ++ [40] ++ joinN k 0 (args.take i))) ((([32]) ++ (nth wordsL k)) ++ ([32])) (Bld.ext f1_3 (below_ext (d11.below (u10.below (n9.below (Below.refl wl1.heap.size wl1) (Below.refl wl1.heap.size wl1).size) (by omega))) h12)) (by first | omega | (simp only [List.length_append, List.length_cons, List.length_nil]; omega))) ?_
       rintro _ ws17 ⟨hs17, ks17⟩
       have zs17 := ks17.size
       refine WO_nil ?_
       refine W_reg ?_
       refine WO_pure (v := (.pointer (some ⟨b, 0, none⟩))) rfl rfl ?_
       refine WO_loadrow (b := wl1.heap.size) (o := 0) (m := 5) (c := #[(.int .i64 ki), (S nmi), (.int .i64 opi), (S evi), svi]) rfl rfl Tryd.underlying39 rfl (fun _ => by kernel_rfl) (kept_keep' ks17 (below_keep h12 (drew_keep d11 e10)) (by decide) (by omega)) (by simp) ?_
       refine WO_eq 59 (v' := (.agg #[(.int .i64 ki), (S nmi), (.int .i64 opi), (S evi), svi])) rfl rfl ?_
       refine WO_call rfl (by exact en_38) (ih i (by omega) u _ [.int .i64 ki, S nmi, .int .i64 opi, S evi, svi] b ((l ++ [40] ++ joinN k 0 (args.take i)) ++ ((([32]) ++ (nth wordsL k)) ++ ([32]))) (by rw [← hxi]; exact ArgsC.at ha i (by omega)) (kept_bel (below_ext (d11.below (u10.below (n9.below (kept_bel (below_ext (Below.refl u.heap.size u) hu) f1_2 (by omega)) (kept_bel (below_ext (Below.refl u.heap.size u) hu) f1_2 (by omega)).size) (by omega))) h12) ks17 (by omega)) hub hs17 (hfa i (by omega)) (by have := argsSize_nth (show i < args.length by omega); omega) (by first | omega | (simp only [List.length_append, List.length_cons, List.length_nil]; omega))) ?_
       rintro _ ws18 ⟨hs18, ks18⟩
       have zs18 := ks18.size
       refine WO_nil ?_
       refine W_reg ?_
       refine WO_add (b := 1) (v := (i : Int) + 1) rfl rfl rfl (by simp only [kLo, kHi]; omega) ?_
       refine WO_pure (v := (.int .i64 ((i : Int) + 1))) rfl rfl ?_
       refine WO_nil ?_
       refine ⟨_, ?_, i + 1, rfl, rfl, rfl, rfl, rfl, (kept_keep' ks18 (kept_keep' ks17 (below_keep h12 (drew_keep d11 (u10.keep (n9.keep k1_1) (by first | assumption | omega | (simp; omega))))) (by decide) (by omega)) (by decide) (by omega)), ?_, ?_, ?_, rfl⟩
       ·omega
       ·omega
       ·exact (Kept.trans (Kept.trans (kept_ext (kept_ext (by first | exact kept_updb (kept_ext (Kept.trans (Kept.refl b w) f1_2) n9.ext (by omega)) u10 | exact kept_updo (kept_ext (Kept.trans (Kept.refl b w) f1_2) n9.ext (by omega)) u10 (by omega)) d11.ext (by omega)) h12 (by omega)) ks17) ks18)
       ·have e := hs18
        rw [joinN_take (show i < args.length by omega)]
        first | rw [sepN_else (k := (k : Int)) (i := i) (by omega) (by omega)] | rw [sepN_word (k := (k : Int)) (i := i) (by omega) (by omega)] | rw [sepN_zero (k := (k : Int)) (i := i) (by omega)]
        first | (simpa only [List.append_assoc, Int.toNat_natCast, List.nil_append] using e) | (exfalso; omega)
      ·refine W_skip ?_
       refine W_reg ?_
       refine WO_pure (v := (.pointer (some ⟨b, 0, none⟩))) rfl rfl ?_
       refine WO_loadrow (b := wl1.heap.size) (o := 0) (m := 5) (c := #[(.int .i64 ki), (S nmi), (.int .i64 opi), (S evi), svi]) rfl rfl Tryd.underlying39 rfl (fun _ => by kernel_rfl) (below_keep h12 (drew_keep d11 e10)) (by simp) ?_
       refine WO_eq 59 (v' := (.agg #[(.int .i64 ki), (S nmi), (.int .i64 opi), (S evi), svi])) rfl rfl ?_
       refine WO_call rfl (by exact en_38) (ih i (by omega) u _ [.int .i64 ki, S nmi, .int .i64 opi, S evi, svi] b (l ++ [40] ++ joinN k 0 (args.take i)) (by rw [← hxi]; exact ArgsC.at ha i (by omega)) (below_ext (d11.below (u10.below (n9.below (kept_bel (below_ext (Below.refl u.heap.size u) hu) f1_2 (by omega)) (kept_bel (below_ext (Below.refl u.heap.size u) hu) f1_2 (by omega)).size) (by omega))) h12) hub (Bld.ext f1_3 (below_ext (d11.below (u10.below (n9.below (Below.refl wl1.heap.size wl1) (Below.refl wl1.heap.size wl1).size) (by omega))) h12)) (hfa i (by omega)) (by have := argsSize_nth (show i < args.length by omega); omega) (by first | omega | (simp only [List.length_append, List.length_cons, List.length_nil]; omega))) ?_
       rintro _ ws19 ⟨hs19, ks19⟩
       have zs19 := ks19.size
       refine WO_nil ?_
       refine W_reg ?_
       refine WO_add (b := 1) (v := (i : Int) + 1) rfl rfl rfl (by simp only [kLo, kHi]; omega) ?_
       refine WO_pure (v := (.int .i64 ((i : Int) + 1))) rfl rfl ?_
       refine WO_nil ?_
       refine ⟨_, ?_, i + 1, rfl, rfl, rfl, rfl, rfl, (kept_keep' ks19 (below_keep h12 (drew_keep d11 (u10.keep (n9.keep k1_1) (by first | assumption | omega | (simp; omega))))) (by decide) (by omega)), ?_, ?_, ?_, rfl⟩
       ·omega
       ·omega
       ·exact (Kept.trans (kept_ext (kept_ext (by first | exact kept_updb (kept_ext (Kept.trans (Kept.refl b w) f1_2) n9.ext (by omega)) u10 | exact kept_updo (kept_ext (Kept.trans (Kept.refl b w) f1_2) n9.ext (by omega)) u10 (by omega)) d11.ext (by omega)) h12 (by omega)) ks19)
       ·have e := hs19
        rw [joinN_take (show i < args.length by omega)]
        first | rw [sepN_else (k := (k : Int)) (i := i) (by omega) (by omega)] | rw [sepN_word (k := (k : Int)) (i := i) (by omega) (by omega)] | rw [sepN_zero (k := (k : Int)) (i := i) (by omega)]
        first | (simpa only [List.append_assoc, Int.toNat_natCast, List.nil_append] using e) | (exfalso; omega)
   ·refine W_exit ?_
    refine W_reg ?_
    refine WO_pure (v := (.pointer (some ⟨b, 0, none⟩))) rfl rfl ?_
    refine WO_call rfl (by exact en_52) (writeByte_any (l := (l ++ [40] ++ joinN k 0 (args.take i))) 41 f1_3 (by first | omega | (simp only [List.length_append, List.length_cons, List.length_nil]; omega))) ?_
    rintro _ ws20 ⟨hs20, ks20⟩
    have zs20 := ks20.size
    refine WO_nil ?_
    refine body_ret0 (fn := Tryd.f38) (by first | exact .inl rfl | exact .inr rfl) rfl ?_
    refine ⟨?_, (Kept.trans (Kept.trans (Kept.refl b w) f1_2) ks20)⟩
    have e := hs20
    unfold textN; rw [if_neg c1]; rw [List.take_of_length_le (by omega)] at e; simpa using e
theorem print_any (d : DepT) : PrintSaid d := by
 refine dep_all (C := PrintSaid) (fun k nm op ev args ih => ?_) d
 intro u w cs b l h hu hub hB hf hs hl
 unfold DepC at h
 obtain ⟨sv, css, rfl, hr, ha⟩ := h
 unfold DepT.size at hs hl
 have hk : 0 ≤ k ∧ 0 ≤ op := by
  by_cases e : k = 1
  ·have := (form_nm hf e).1; omega
  ·have := form_args hf e; have h1 := this.1; have h2 := this.2.2.2.1; omega
 obtain ⟨k, rfl⟩ : ∃ n : Nat, k = n := ⟨k.toNat, by omega⟩
 obtain ⟨op, rfl⟩ : ∃ n : Nat, op = n := ⟨op.toNat, by omega⟩
 exact print_step k op nm ev args sv css u w b l hr ha hu hub hB hf hs hl ih
end Go.Proofs.YthhacfehjgfpbaaDoor
end
section
namespace Go.Proofs.YthhacfehjgfpbaaDoor
open Go Go.RowKit
def printF (d : DepT) : List UInt8 × Int := if checkE d = 0 then (textN d, 0) else ([], checkE d)
theorem check_form {d : DepT} (h : checkE d = 0) : formB d = true := by
 unfold checkE at h
 split at h
 ·assumption
 ·cases h
set_option maxHeartbeats 400000 in
set_option maxRecDepth 100000 in
theorem Print_step (k op : Int) (nm ev : List UInt8) (args : List DepT) (sv : Value) (css : List (List Value)) (w : World) (hr : RowIs w sv args.length 5 css.flatten) (ha : ArgsC w args css) (hs : argsSize args + 1 + nm.length + ev.length ≤ 4194304) :
  Calls Tryd.prog 22 #[(.agg #[(.int .i64 k), (S nm), (.int .i64 op), (S ev), sv])] w (Ret fun v w' => v = .tuple #[S (printF (DepT.mk k nm op ev args)).1, .int .i64 (printF (DepT.mk k nm op ev args)).2] ∧ Below w.heap.size w w') := by
 have hd0 : DepC w (DepT.mk k nm op ev args) [.int .i64 k, S nm, .int .i64 op, S ev, sv] := depC_mk hr ha
 have hz0 : (DepT.mk k nm op ev args).size ≤ 4194304 := by unfold DepT.size; omega
 refine calls_W Tryd.func22 rfl Tryd.ntmps22 ?_
 refine W_seq ?_
 refine W_reg ?_
 refine WO_box (v := (.agg #[(.int .i64 k), (S nm), (.int .i64 op), (S ev), sv])) rfl rfl (fun w1 n1 => ?_)
 have e1 : w1.heap[w.heap.size]? = some (.cells #[(.int .i64 k), (S nm), (.int .i64 op), (S ev), sv] 39 (0, 0)) := n1.here
 have z1 := n1.size
 refine WO_pure (v := (S [])) rfl rfl ?_
 refine WO_pure (v := (.int .i64 0)) rfl rfl ?_
 refine WO_nil ?_
 refine W_seq ?_
 refine W_seq ?_
 refine W_reg ?_
 refine WO_loadrow (b := w.heap.size) (o := 0) (m := 5) (c := #[(.int .i64 k), (S nm), (.int .i64 op), (S ev), sv]) rfl rfl Tryd.underlying39 rfl (fun _ => by kernel_rfl) e1 (by simp) ?_
 refine WO_eq 6 (v' := (.agg #[(.int .i64 k), (S nm), (.int .i64 op), (S ev), sv])) rfl rfl ?_
 refine WO_call rfl (by exact en_37) (check_any (DepT.mk k nm op ev args) _ (hd0.ext (n1.below (Below.refl w.heap.size w) (Below.refl w.heap.size w).size) _ _) hz0) ?_
 rintro _ wk ⟨rfl, bk⟩
 have z_wk := bk.size
 refine WO_pure (v := (.int .i64 (checkE (DepT.mk k nm op ev args)))) rfl rfl ?_
 refine WO_nil ?_
 refine W_seq ?_
 refine W_reg ?_
 refine WO_pure (v := (.int .i64 (checkE (DepT.mk k nm op ev args)))) rfl rfl ?_
 refine WO_pure (v := (.bool (!decide ((checkE (DepT.mk k nm op ev args)) = 0)))) rfl rfl ?_
 refine WO_nil ?_
 refine W_cond (t := !decide ((checkE (DepT.mk k nm op ev args)) = 0)) rfl (fun c1 => ?_) (fun c1 => ?_)
 ·refine W_seq ?_
  refine W_reg ?_
  refine WO_pure (v := (.int .i64 (checkE (DepT.mk k nm op ev args)))) rfl rfl ?_
  refine WO_pure (v := (S [])) rfl rfl ?_
  refine WO_pure (v := (.int .i64 (checkE (DepT.mk k nm op ev args)))) rfl rfl ?_
  refine WO_nil ?_
  refine W_ret ?_
  refine body_ret2 rfl (v0 := (S [])) (v1 := (.int .i64 (checkE (DepT.mk k nm op ev args)))) rfl rfl ?_
  have hbel := (below_ext (n1.below (Below.refl w.heap.size w) (Below.refl w.heap.size w).size) bk)
  exact ⟨by unfold printF; rw [if_neg (by simpa using c1)], hbel⟩
 ·refine W_skip ?_
  refine W_seq ?_
  refine W_reg ?_
  refine WO_alloc (v := (.agg #[(.pointer none), (.slice none 0 0)])) rfl (fun _ => by kernel_rfl) (fun w2 n2 => ?_)
  have e2 : w2.heap[wk.heap.size]? = some (.cells #[(.pointer none), (.slice none 0 0)] 47 (0, 0)) := n2.here
  have z2 := n2.size
  refine WO_nil ?_
  refine W_seq ?_
  refine W_reg ?_
  have hfo : formB (DepT.mk k nm op ev args) = true := check_form (by simpa using c1)
  refine WO_loadrow (b := w.heap.size) (o := 0) (m := 5) (c := #[(.int .i64 k), (S nm), (.int .i64 op), (S ev), sv]) rfl rfl Tryd.underlying39 rfl (fun _ => by kernel_rfl) (n2.keep (below_keep bk e1)) (by simp) ?_
  refine WO_eq 11 (v' := (.agg #[(.int .i64 k), (S nm), (.int .i64 op), (S ev), sv])) rfl rfl ?_
  refine WO_call rfl (by exact en_38) (print_any (DepT.mk k nm op ev args) w _ _ _ [] hd0 (n2.below (below_ext (n1.below (Below.refl w.heap.size w) (Below.refl w.heap.size w).size) bk) (below_ext (n1.below (Below.refl w.heap.size w) (Below.refl w.heap.size w).size) bk).size) (by omega) (Bld.fresh e2) hfo hz0 (by simp only [List.length_nil]; omega)) ?_
  rintro _ wp ⟨hp, kp⟩
  have zp := kp.size
  have z_wp := kp.size
  refine WO_nil ?_
  refine W_seq ?_
  refine W_reg ?_
  refine WO_call rfl (by exact en_18) (string_any hp) ?_
  rintro _ wt ⟨rfl, kt⟩
  have zt := kt.size
  have z_wt := kt.size
  refine WO_pure (v := (S (textN (DepT.mk k nm op ev args)))) rfl rfl ?_
  refine WO_pure (v := (.int .i64 0)) rfl rfl ?_
  refine WO_nil ?_
  refine W_ret ?_
  refine body_ret2 rfl (v0 := (S (textN (DepT.mk k nm op ev args)))) (v1 := (.int .i64 0)) rfl rfl ?_
  have hbel := (kept_bel (kept_bel (n2.below (below_ext (n1.below (Below.refl w.heap.size w) (Below.refl w.heap.size w).size) bk) (below_ext (n1.below (Below.refl w.heap.size w) (Below.refl w.heap.size w).size) bk).size) kp (by omega)) kt (by omega))
  exact ⟨by unfold printF; rw [if_pos (by simpa using c1)], hbel⟩
theorem Print_any {w : World} (d : DepT) (cs : List Value) (h : DepC w d cs) (hs : d.size ≤ 4194304) : Calls Tryd.prog 22 #[.agg cs.toArray] w (Ret fun v w' => v = .tuple #[S (printF d).1, .int .i64 (printF d).2] ∧ Below w.heap.size w w') := by
 cases d with
 | mk k nm op ev args =>
  unfold DepC at h
  obtain ⟨sv, css, rfl, hr, ha⟩ := h
  unfold DepT.size at hs
  exact Print_step k op nm ev args sv css w hr ha (by omega)
end Go.Proofs.YthhacfehjgfpbaaDoor
end
section
namespace Go.Proofs.YthhacfehjgfpbaaDoor
open Go Go.RowKit
def Toks : List UInt8 → List (List UInt8) → Prop
  | s, [] => (nextW s).1 = []
  | s, w :: r => (nextW s).1 = w ∧ w ≠ [] ∧ Toks (nextW s).2 r
theorem nextW_blank (s : List UInt8) : nextW (32 :: s) = nextW s := by unfold nextW; rw [show skipB (32 :: s) = skipB s from rfl]
theorem toks_blank {ws : List (List UInt8)} {s : List UInt8} (h : Toks s ws) : Toks (32 :: s) ws := by
  cases ws with
  | nil => unfold Toks at h ⊢; rw [nextW_blank]; exact h
  | cons w r => unfold Toks at h ⊢; rw [nextW_blank]; exact h
def Stop (t : List UInt8) : Prop := t = [] ∨ ∃ c r, t = c :: r ∧ (c = 32 ∨ c = 41)
theorem scan_word : ∀ (w t : List UInt8) (n : Nat), pairs w n = true → Stop t → scanW (w ++ t) n = w.length
  | [], t, n, h, ht => by
    have hn : n = 0 := by unfold pairs at h; have := of_decide_eq_true h; omega
    subst hn
    rcases ht with rfl | ⟨c, r, rfl, rfl | rfl⟩ <;> rfl
  | c :: w, t, n, h, ht => by
    unfold pairs at h
    split at h
    · cases h
    · rename_i hc
      have h32 : c ≠ 32 := fun e => hc (by rw [e]; decide)
      show (if c = 32 then 0 else if c = 41 then (if n = 0 then 0 else scanW (w ++ t) (n - 1) + 1) else if c = 40 then scanW (w ++ t) (n + 1) + 1 else scanW (w ++ t) n + 1) = w.length + 1
      rw [if_neg h32]
      by_cases h40 : c = 40
      · subst h40
        rw [if_pos (by decide)] at h
        simp only at h
        rw [if_neg (by omega)] at h
        rw [if_neg (by decide), if_pos rfl, scan_word w t (n + 1) h ht]
      · have h40' : ¬ c.toNat = 40 := fun e => h40 (UInt8.toNat_inj.1 e)
        rw [if_neg h40'] at h
        by_cases h41 : c = 41
        · subst h41
          rw [if_pos (by decide)] at h
          simp only at h
          split at h
          · cases h
          · rename_i hn
            rw [if_pos rfl, if_neg (by omega), scan_word w t (n - 1) (by rw [show ((n - 1 : Nat) : Int) = (n : Int) - 1 by omega]; exact h) ht]
        · have h41' : ¬ c.toNat = 41 := fun e => h41 (UInt8.toNat_inj.1 e)
          rw [if_neg h41'] at h
          simp only at h
          rw [if_neg (by omega)] at h
          rw [if_neg h41, if_neg h40, scan_word w t n h ht]
def Word (w : List UInt8) : Prop := pairs w 0 = true ∧ ∃ c r, w = c :: r ∧ c ≠ 40 ∧ c ≠ 41
theorem Word.next {w t : List UInt8} (h : Word w) (ht : Stop t) : nextW (w ++ t) = (w, t) := by
  obtain ⟨h1, c, r, rfl, h40, h41⟩ := h
  have hs := scan_word (c :: r) t 0 h1 ht
  have h32 : c ≠ 32 := by
    rintro rfl
    unfold pairs at h1
    rw [if_pos (by decide)] at h1; cases h1
  unfold nextW
  rw [show skipB (c :: r ++ t) = c :: (r ++ t) by show skipB (c :: (r ++ t)) = _; unfold skipB; rw [if_neg h32]]
  simp only
  rw [if_neg (by rintro (h | h) <;> contradiction)]
  rw [show c :: (r ++ t) = (c :: r) ++ t from rfl, hs, List.take_left, List.drop_left]
theorem Word.ne {w : List UInt8} (h : Word w) : w ≠ [] := by obtain ⟨_, c, r, rfl, _⟩ := h; simp
theorem toks_word {w t : List UInt8} {ws : List (List UInt8)} (h : Word w) (ht : Stop t) (hw : Toks t ws) : Toks (w ++ t) (w :: ws) := by
  unfold Toks
  rw [h.next ht]
  exact ⟨rfl, h.ne, hw⟩
theorem toks_open {t : List UInt8} {ws : List (List UInt8)} (hw : Toks t ws) : Toks (40 :: t) ([40] :: ws) := by
  unfold Toks
  exact ⟨rfl, by simp, hw⟩
theorem toks_close {t : List UInt8} {ws : List (List UInt8)} (hw : Toks t ws) : Toks (41 :: t) ([41] :: ws) := by
  unfold Toks
  exact ⟨rfl, by simp, hw⟩
theorem stop_blank (t : List UInt8) : Stop (32 :: t) := .inr ⟨_, _, rfl, .inl rfl⟩
theorem stop_close (t : List UInt8) : Stop (41 :: t) := .inr ⟨_, _, rfl, .inr rfl⟩
theorem word_name {nm : List UInt8} (h : nameB nm = true) : Word nm := by
  unfold nameB at h
  simp only [Bool.and_eq_true, Bool.not_eq_true'] at h
  refine ⟨h.2, ?_⟩
  have h1 := h.1
  unfold nameHead at h1
  simp only [Bool.or_eq_false_iff, decide_eq_false_iff_not] at h1
  obtain ⟨h2, _, h3, h4, _⟩ := h1
  cases nm with
  | nil => exact absurd rfl h2
  | cons c r => exact ⟨c, r, rfl, fun e => h3 (by rw [e]; rfl), fun e => h4 (by rw [e]; rfl)⟩
theorem pairs_plain : ∀ (l : List UInt8), (∀ c ∈ l, ¬ (c.toNat < 33 ∨ 126 < c.toNat) ∧ c ≠ 40 ∧ c ≠ 41) → pairs l 0 = true
  | [], _ => rfl
  | c :: r, h => by
    have hc := h c (by simp)
    unfold pairs
    rw [if_neg hc.1, if_neg (show ¬ c.toNat = 40 from fun e => hc.2.1 (UInt8.toNat_inj.1 e)), if_neg (show ¬ c.toNat = 41 from fun e => hc.2.2 (UInt8.toNat_inj.1 e))]
    show (if (0 : Int) < 0 then false else pairs r 0) = true
    rw [if_neg (by decide)]
    exact pairs_plain r fun x hx => h x (by simp [hx])
theorem may_plain (c : UInt8) (h : mayC c = true) : ¬ (c.toNat < 33 ∨ 126 < c.toNat) ∧ c ≠ 40 ∧ c ≠ 41 := by
  have key : ∀ n : Fin 256, mayC (UInt8.ofNat n) = true → ¬ ((UInt8.ofNat n).toNat < 33 ∨ 126 < (UInt8.ofNat n).toNat) ∧ UInt8.ofNat n ≠ 40 ∧ UInt8.ofNat n ≠ 41 := by decide +kernel
  have := key ⟨c.toNat, c.toNat_lt⟩
  rw [show UInt8.ofNat (⟨c.toNat, c.toNat_lt⟩ : Fin 256) = c by simp] at this
  exact this h
theorem head_ok {ev : List UInt8} (h : evrE ev = 0) : headB ev = true := by
  unfold evrE at h
  split at h
  · rename_i hb
    unfold evrB at hb
    exact (Bool.and_eq_true _ _ ▸ hb).1
  · cases h
theorem word_evr {ev : List UInt8} (h : evrE ev = 0) : Word ev := by
  have h1 := head_ok h
  unfold headB at h1
  simp only [Bool.and_eq_true, List.all_eq_true, decide_eq_true_eq] at h1
  obtain ⟨h2, h3, _⟩ := h1
  refine ⟨pairs_plain ev fun c hc => may_plain c (h2 c hc), ?_⟩
  cases ev with
  | nil => simp at h3
  | cons c r => exact ⟨c, r, rfl, (may_plain c (h2 c (by simp))).2⟩
theorem evr_len {ev : List UInt8} (h : evrE ev = 0) : ev.length ≤ 60 := by
  have h1 := head_ok h
  unfold headB at h1
  simp only [Bool.and_eq_true, decide_eq_true_eq] at h1
  exact h1.2.2
theorem name_len {nm : List UInt8} (h : nameB nm = true) : nm.length ≤ 60 := by
  unfold nameB at h
  simp only [Bool.and_eq_true, Bool.not_eq_true'] at h
  exact head_len h.1
theorem word_sign {n : Nat} (h1 : 1 ≤ n) (h7 : n ≤ 7) : Word (nth signsL n) ∧ signN (nth signsL n) = n := by
  have key : ∀ n : Fin 8, 1 ≤ n.1 → (pairs (nth signsL n.1) 0 = true ∧ ((nth signsL n.1).head? ≠ none ∧ (nth signsL n.1).head? ≠ some 40 ∧ (nth signsL n.1).head? ≠ some 41)) ∧ signN (nth signsL n.1) = (n.1 : Int) := by decide +kernel
  obtain ⟨⟨h2, h3, h4, h5⟩, h6⟩ := key ⟨n, by omega⟩ h1
  refine ⟨⟨h2, ?_⟩, h6⟩
  generalize nth signsL n = l at *
  cases l with
  | nil => simp at h3
  | cons c r => exact ⟨c, r, rfl, fun e => h4 (by rw [e]; rfl), fun e => h5 (by rw [e]; rfl)⟩
theorem word_kind {n : Nat} (h2 : 2 ≤ n) (h6 : n ≤ 6) : Word (nth wordsL n) ∧ kindW (nth wordsL n) = n ∧ signN (nth wordsL n) = 0 ∧ nth wordsL n ≠ [41] := by
  have key : ∀ n : Fin 7, 2 ≤ n.1 → (pairs (nth wordsL n.1) 0 = true ∧ ((nth wordsL n.1).head? ≠ none ∧ (nth wordsL n.1).head? ≠ some 40 ∧ (nth wordsL n.1).head? ≠ some 41)) ∧ kindW (nth wordsL n.1) = (n.1 : Int) ∧ signN (nth wordsL n.1) = 0 ∧ nth wordsL n.1 ≠ [41] := by decide +kernel
  obtain ⟨⟨h3, h4, h5, h7⟩, h8, h9, h10⟩ := key ⟨n, by omega⟩ h2
  refine ⟨⟨h3, ?_⟩, h8, h9, h10⟩
  generalize nth wordsL n = l at *
  cases l with
  | nil => simp at h4
  | cons c r => exact ⟨c, r, rfl, fun e => h5 (by rw [e]; rfl), fun e => h7 (by rw [e]; rfl)⟩
theorem word_else : Word [101, 108, 115, 101] := ⟨by decide, 101, _, rfl, by decide, by decide⟩
mutual
def wordsD : DepT → List (List UInt8)
  | .mk k nm op ev args => if k = 1 then (if 0 < op then [nm, nth signsL op.toNat, ev] else [nm]) else [40] :: (wordsJ k 0 args ++ [[41]])
def wordsJ (k : Int) : Nat → List DepT → List (List UInt8)
  | _, [] => []
  | i, a :: r => (if 0 < i then [wordN k i] else []) ++ (wordsD a ++ wordsJ k (i + 1) r)
end
theorem wordN_word {k : Int} {i : Nat} (h2 : 2 ≤ k) (h6 : k ≤ 6) : Word (wordN k i) := by
  unfold wordN
  split
  · exact word_else
  · obtain ⟨n, rfl⟩ : ∃ n : Nat, k = n := ⟨k.toNat, by omega⟩
    rw [Int.toNat_natCast]
    exact (word_kind (by omega) (by omega)).1
theorem join_stop {k : Int} {t : List UInt8} (ht : Stop t) : ∀ (i : Nat) (l : List DepT), Stop (joinN k (i + 1) l ++ t)
  | _, [] => by simpa [joinN] using ht
  | i, a :: r => by
    unfold joinN sepN
    rw [if_pos (by omega)]
    exact stop_blank _
mutual
theorem text_toks : ∀ (d : DepT), formB d = true → ∀ (t : List UInt8) (ws : List (List UInt8)), Stop t → Toks t ws → Toks (textN d ++ t) (wordsD d ++ ws)
  | .mk k nm op ev args, h, t, ws, ht, hw => by
    unfold textN wordsD
    by_cases hk : k = 1
    · have hf := form_nm h hk
      rw [if_pos hk, if_pos hk]
      split
      · rename_i hop
        obtain ⟨n, rfl⟩ : ∃ n : Nat, op = n := ⟨op.toNat, by omega⟩
        have hs := (word_sign (n := n) (by omega) (by omega)).1
        have he := word_evr (hf.2.2.2.2.2 (by omega))
        simp only [List.append_assoc, List.cons_append, List.nil_append, Int.toNat_natCast]
        exact toks_word (word_name hf.2.2.2.1) (stop_blank _) (toks_blank (toks_word hs (stop_blank _) (toks_blank (toks_word he ht hw))))
      · exact toks_word (word_name hf.2.2.2.1) ht hw
    · have hf := form_args h hk
      rw [if_neg hk, if_neg hk]
      simp only [List.append_assoc, List.cons_append, List.nil_append]
      refine toks_open ?_
      exact join_toks k (by omega) (by omega) 0 args hf.2.2.2.2.2.2.2.2 _ _ (stop_close t) (toks_close hw)
theorem join_toks : ∀ (k : Int), 2 ≤ k → k ≤ 6 → ∀ (i : Nat) (l : List DepT), argsForm k l = true → ∀ (t : List UInt8) (ws : List (List UInt8)), Stop t → Toks t ws → Toks (joinN k i l ++ t) (wordsJ k i l ++ ws)
  | k, h2, h6, i, [], _, t, ws, _, hw => by simpa [joinN, wordsJ] using hw
  | k, h2, h6, i, a :: r, h, t, ws, ht, hw => by
    unfold argsForm at h
    simp only [Bool.and_eq_true] at h
    have h1 := join_toks k h2 h6 (i + 1) r h.2.2 t ws ht hw
    have h3 := text_toks a h.2.1 _ _ (join_stop ht i r) h1
    unfold joinN wordsJ sepN
    split
    · simp only [List.append_assoc, List.cons_append, List.nil_append]
      exact toks_blank (toks_word (wordN_word h2 h6) (stop_blank _) (toks_blank h3))
    · simpa only [List.append_assoc, List.nil_append] using h3
end
theorem parse_ok {s : List UInt8} {x : DepT} (h : parseF s = (x, 0)) : checkE x = 0 := by
  unfold parseF at h
  split at h
  · cases h
  · split at h
    · split at h
      · rename_i hc; cases h; exact hc
      · rename_i hc; simp only [Prod.mk.injEq] at h; exact absurd h.2 hc
    · cases h
mutual
theorem text_short : ∀ d : DepT, formB d = true → (textN d).length + 20 ≤ 1000 * partsN d
  | .mk k nm op ev args, h => by
    unfold textN partsN
    by_cases hk : k = 1
    · have hf := form_nm h hk
      have h1 := name_len hf.2.2.2.1
      have h2 := sign_len op.toNat
      rw [if_pos hk, if_pos hk]
      split
      · have h3 := evr_len (hf.2.2.2.2.2 (by omega))
        simp only [List.length_append, List.length_cons, List.length_nil]; omega
      · omega
    · have hf := form_args h hk
      rw [if_neg hk, if_neg hk]
      have h1 := join_short k 0 args hf.2.2.2.2.2.2.2.2
      simp only [List.length_append, List.length_cons, List.length_nil]; omega
theorem join_short : ∀ (k : Int) (i : Nat) (l : List DepT), argsForm k l = true → (joinN k i l).length + 11 * l.length ≤ 1000 * argsParts l
  | k, i, [], _ => by simp [joinN]
  | k, i, a :: r, h => by
    unfold argsForm at h
    simp only [Bool.and_eq_true] at h
    have h1 := text_short a h.2.1
    have h2 := join_short k (i + 1) r h.2.2
    have h3 := sepN_len k i
    unfold joinN argsParts
    simp only [List.length_append, List.length_cons]; omega
end
theorem text_le {d : DepT} (hc : checkE d = 0) : (textN d).length ≤ 16000 := by
  have hf := check_form hc
  have h1 := text_short d hf
  unfold checkE at hc
  rw [if_pos hf] at hc
  split at hc
  · cases hc
  · omega
end Go.Proofs.YthhacfehjgfpbaaDoor
end
section
namespace Go.Proofs.YthhacfehjgfpbaaDoor
open Go Go.RowKit
set_option linter.unusedSimpArgs false
set_option linter.unusedVariables false
namespace Sv
inductive AV where
  | bool (b : Bool)
  | int (k : IntKind) (n : Int)
  | str (l : List UInt8)
  | ptr (b off : Nat)
  | nilp
  | sl (b off len cap : Nat) (op : Bool)
  | nils
  | sle
  | map (b : Nat)
  | nilm
  | fn (f : Nat) (first cap : List AV)
  | nilf
  | ifc (t : Nat) (v : AV)
  | nili
  | agg (l : List AV)
  | tup (l : List AV)
  | raw (v : Value)
  | row (sz n : Nat) (g : Nat → AV)
  | fp (a : AV)
  | own (b : Nat)
  | cond (q : Bool) (a : AV)
structure Phi where
  m : Nat → Option (Nat × Nat)
  s : Nat → Option Value
  f : Nat → Option Obj
instance : CoeFun Phi (fun _ => Nat → Option (Nat × Nat)) := ⟨Phi.m⟩
structure Phi.le (φ φ' : Phi) : Prop where
  m : ∀ b x, φ b = some x → φ' b = some x
  s : ∀ b x, φ.s b = some x → φ'.s b = some x
  f : ∀ b x, φ.f b = some x → φ'.f b = some x
theorem Phi.le_refl (φ : Phi) : φ.le φ := ⟨fun _ _ h => h, fun _ _ h => h, fun _ _ h => h⟩
theorem Phi.le_trans {a b c : Phi} (h : a.le b) (k : b.le c) : a.le c := ⟨fun x y e => k.m x y (h.m x y e), fun x y e => k.s x y (h.s x y e), fun x y e => k.f x y (h.f x y e)⟩
def LieAt (f : Nat → Option Obj) (b o : Nat) (us : List Value) : Prop := ∃ cs e fr, f b = some (.cells cs e fr) ∧ ∀ j u, us[j]? = some u → cs[o + j]? = some u ∧ u.oneCell' = true
theorem LieAt.mono {φ φ' : Phi} (h : φ.le φ') {b o : Nat} {us : List Value} (k : LieAt φ.f b o us) : LieAt φ'.f b o us := by
  obtain ⟨cs, e, fr, h1, h2⟩ := k; exact ⟨cs, e, fr, h.f _ _ h1, h2⟩
def RowAt (f : Nat → Option Obj) (sz n : Nat) (u : Nat → Value) (v : Value) : Prop :=
  (n = 0 ∧ (v = .slice none 0 0 ∨ ∃ a c, v = .slice (some a) 0 c)) ∨ ∃ b o c, v = .slice (some ⟨b, o, none⟩) n c ∧ n ≤ c ∧ ∀ i, i < n → (u i).cells.size = sz ∧ LieAt f b (o + i * sz) (u i).cells.toList
theorem RowAt.mono {φ φ' : Phi} (h : φ.le φ') {sz n : Nat} {u : Nat → Value} {v : Value} (k : RowAt φ.f sz n u v) : RowAt φ'.f sz n u v := by
  rcases k with k | ⟨b, o, c, rfl, k0, k⟩
  · exact .inl k
  · exact .inr ⟨b, o, c, rfl, k0, fun i hi => ⟨(k i hi).1, (k i hi).2.mono h⟩⟩
def Phi.fz (φ : Phi) : Phi := ⟨fun _ => none, fun _ => none, φ.f⟩
theorem Phi.fz_le {φ φ' : Phi} (h : φ.le φ') : φ.fz.le φ'.fz := ⟨fun _ _ e => (by cases e), fun _ _ e => (by cases e), h.f⟩
theorem Phi.le_fz (φ : Phi) : φ.fz.le φ := ⟨fun _ _ e => (by cases e), fun _ _ e => (by cases e), fun _ _ e => e⟩
def isBoolA : AV → Bool
  | .bool _ => true
  | _ => false
mutual
def VR : Phi → AV → Value → Prop
  | φ, .bool b, v => v = .bool b
  | φ, .int k n, v => v = .int k n
  | φ, .str l, v => v = .string ⟨l.toArray⟩
  | φ, .ptr b o, v => ∃ x κ, φ b = some (x, κ) ∧ v = .pointer (some ⟨x, o, none⟩)
  | φ, .nilp, v => v = .pointer none
  | φ, .sl b o len cap op, v => ∃ x κ, φ b = some (x, κ) ∧ ((op = true ∧ cap + len ≤ κ ∧ v = .slice (some ⟨x, o, none⟩) len (κ - cap)) ∨ (op = false ∧ v = .slice (some ⟨x, o, none⟩) len cap))
  | φ, .nils, v => v = .slice none 0 0
  | φ, .sle, v => ∃ a c, v = .slice (some a) 0 c
  | φ, .map b, v => ∃ x κ, φ b = some (x, κ) ∧ v = .map (some x)
  | φ, .nilm, v => v = .map none
  | φ, .fn f first cap, v => ∃ vf vc, VRl φ first vf ∧ VRl φ cap vc ∧ v = .func (.func f) vf.toArray vc.toArray
  | φ, .nilf, v => v = .nilFunc
  | φ, .ifc t a, v => ∃ u, VR φ a u ∧ v = .iface t u
  | φ, .nili, v => v = .nilIface
  | φ, .agg l, v => ∃ vs, VRl φ l vs ∧ v = .agg vs.toArray
  | φ, .tup l, v => ∃ vs, VRl φ l vs ∧ v = .tuple vs.toArray
  | φ, .raw u, v => v = u
  | φ, .row sz n g, v => ∃ u : Nat → Value, (∀ i, i < n → VR φ.fz (g i) (u i)) ∧ RowAt φ.f sz n u v
  | φ, .fp a, v => ∃ b o u, v = .pointer (some ⟨b, o, none⟩) ∧ VR φ.fz a u ∧ LieAt φ.f b o u.cells.toList
  | φ, .own b, v => φ.s b = some v ∧ ∃ a n c, v = .slice a n c
  | φ, .cond q a, v => (q = true → VR φ a v) ∧ (isBoolA a = true → q = false → v = undef)
def VRl : Phi → List AV → List Value → Prop
  | φ, [], vs => vs = []
  | φ, a :: l, vs => ∃ v vs', vs = v :: vs' ∧ VR φ a v ∧ VRl φ l vs'
end
mutual
theorem VR.mono' : ∀ {a : AV} {φ φ' : Phi} {v : Value}, φ.le φ' → VR φ a v → VR φ' a v
  | .bool _, φ, φ', _, h, k => k
  | .int _ _, φ, φ', _, h, k => k
  | .str _, φ, φ', _, h, k => k
  | .ptr _ _, φ, φ', _, h, k => by
    simp only [VR] at k ⊢
    obtain ⟨x, κ, e, r⟩ := k; exact ⟨x, κ, h.m _ _ e, r⟩
  | .nilp, φ, φ', _, h, k => k
  | .sl _ _ _ _ _, φ, φ', _, h, k => by
    simp only [VR] at k ⊢
    obtain ⟨x, κ, e, r⟩ := k; exact ⟨x, κ, h.m _ _ e, r⟩
  | .nils, φ, φ', _, h, k => k
  | .sle, φ, φ', _, h, k => k
  | .map _, φ, φ', _, h, k => by
    simp only [VR] at k ⊢
    obtain ⟨x, κ, e, r⟩ := k; exact ⟨x, κ, h.m _ _ e, r⟩
  | .nilm, φ, φ', _, h, k => k
  | .fn _ _ _, φ, φ', _, h, k => by
    simp only [VR] at k ⊢
    obtain ⟨a, b, e1, e2, r⟩ := k; exact ⟨a, b, VRl.mono' h e1, VRl.mono' h e2, r⟩
  | .nilf, φ, φ', _, h, k => k
  | .ifc _ _, φ, φ', _, h, k => by
    simp only [VR] at k ⊢
    obtain ⟨u, e, r⟩ := k; exact ⟨u, VR.mono' h e, r⟩
  | .nili, φ, φ', _, h, k => k
  | .agg _, φ, φ', _, h, k => by
    simp only [VR] at k ⊢
    obtain ⟨u, e, r⟩ := k; exact ⟨u, VRl.mono' h e, r⟩
  | .tup _, φ, φ', _, h, k => by
    simp only [VR] at k ⊢
    obtain ⟨u, e, r⟩ := k; exact ⟨u, VRl.mono' h e, r⟩
  | .raw _, φ, φ', _, h, k => k
  | .row sz n g, φ, φ', _, h, k => by
    simp only [VR] at k ⊢
    obtain ⟨u, k1, k2⟩ := k; exact ⟨u, fun i hi => VR.mono' (Phi.fz_le h) (k1 i hi), k2.mono h⟩
  | .fp a, φ, φ', _, h, k => by
    simp only [VR] at k ⊢
    obtain ⟨b, o, u, e, k1, k2⟩ := k; exact ⟨b, o, u, e, VR.mono' (Phi.fz_le h) k1, k2.mono h⟩
  | .own b, φ, φ', _, h, k => by
    simp only [VR] at k ⊢
    exact ⟨h.s _ _ k.1, k.2⟩
  | .cond q a, φ, φ', _, h, k => by
    simp only [VR] at k ⊢
    exact ⟨fun hq => VR.mono' h (k.1 hq), k.2⟩
theorem VRl.mono' : ∀ {l : List AV} {φ φ' : Phi} {vs : List Value}, φ.le φ' → VRl φ l vs → VRl φ' l vs
  | [], φ, φ', _, h, k => k
  | _ :: _, φ, φ', _, h, k => by
    simp only [VRl] at k ⊢
    obtain ⟨v, vs', e, e1, e2⟩ := k; exact ⟨v, vs', e, VR.mono' h e1, VRl.mono' h e2⟩
end
theorem V_condF {φ : Phi} {a : AV} : VR φ (.cond false a) undef := by unfold VR; exact ⟨fun e => (by cases e), fun _ _ => rfl⟩
theorem V_condT {φ : Phi} {a : AV} {v : Value} (h : VR φ a v) : VR φ (.cond true a) v := by unfold VR; exact ⟨fun _ => h, fun _ e => (by cases e)⟩
theorem VR.condT {φ : Phi} {q : Bool} {a : AV} {v : Value} (h : VR φ (.cond q a) v) (hq : q = true) : VR φ a v := by unfold VR at h; exact h.1 hq
theorem VR.mono {φ φ' : Phi} (h : φ.le φ') {a : AV} {v : Value} (k : VR φ a v) : VR φ' a v := VR.mono' h k
theorem VRl.mono {φ φ' : Phi} (h : φ.le φ') {l : List AV} {vs : List Value} (k : VRl φ l vs) : VRl φ' l vs := VRl.mono' h k
section
variable {φ : Phi}
theorem VR.ofBool (q : Bool) : VR φ (.bool q) (.bool q) := by simp [VR]
theorem VR.ofStr (l : List UInt8) : VR φ (.str l) (.string ⟨l.toArray⟩) := by simp [VR]
theorem VRl.nil : VRl φ [] [] := by simp [VRl]
theorem VRl.cons {a : AV} {v : Value} {l : List AV} {vs : List Value} (h : VR φ a v) (k : VRl φ l vs) : VRl φ (a :: l) (v :: vs) := by
  simp only [VRl]; exact ⟨v, vs, rfl, h, k⟩
theorem VRl.cons_inv {a : AV} {l : List AV} {vs : List Value} (h : VRl φ (a :: l) vs) : ∃ v vs', vs = v :: vs' ∧ VR φ a v ∧ VRl φ l vs' := by
  simpa only [VRl] using h
theorem VRl.nil_inv {vs : List Value} (h : VRl φ [] vs) : vs = [] := by simpa only [VRl] using h
theorem VRl.length : ∀ {l : List AV} {vs : List Value}, VRl φ l vs → vs.length = l.length
  | [], _, h => by rw [h.nil_inv]; rfl
  | _ :: _, _, h => by obtain ⟨v, vs', rfl, _, k⟩ := h.cons_inv; simp [VRl.length k]
theorem VRl.append : ∀ {l l' : List AV} {vs vs' : List Value}, VRl φ l vs → VRl φ l' vs' → VRl φ (l ++ l') (vs ++ vs')
  | [], _, _, _, h, k => by rw [h.nil_inv]; exact k
  | _ :: _, _, _, _, h, k => by obtain ⟨v, vs', rfl, h1, h2⟩ := h.cons_inv; exact .cons h1 (VRl.append h2 k)
theorem VRl.take : ∀ {l : List AV} {vs : List Value} (n : Nat), VRl φ l vs → VRl φ (l.take n) (vs.take n)
  | _, _, 0, _ => by simp only [List.take_zero]; exact .nil
  | [], _, n + 1, h => by rw [h.nil_inv]; simp only [List.take_nil]; exact .nil
  | _ :: _, _, n + 1, h => by obtain ⟨v, vs', rfl, h1, h2⟩ := h.cons_inv; simp only [List.take_succ_cons]; exact .cons h1 (VRl.take n h2)
theorem VRl.drop : ∀ {l : List AV} {vs : List Value} (n : Nat), VRl φ l vs → VRl φ (l.drop n) (vs.drop n)
  | _, _, 0, h => by simpa only [List.drop_zero] using h
  | [], _, n + 1, h => by rw [h.nil_inv]; simp only [List.drop_nil]; exact .nil
  | _ :: _, _, n + 1, h => by obtain ⟨v, vs', rfl, h1, h2⟩ := h.cons_inv; simp only [List.drop_succ_cons]; exact VRl.drop n h2
theorem VRl.get : ∀ {l : List AV} {vs : List Value} {i : Nat} {a : AV}, VRl φ l vs → l[i]? = some a → ∃ v, vs[i]? = some v ∧ VR φ a v
  | [], _, _, _, _, e => by simp at e
  | _ :: _, _, 0, _, h, e => by obtain ⟨v, vs', rfl, h1, _⟩ := h.cons_inv; simp at e; subst e; exact ⟨v, by simp, h1⟩
  | _ :: _, _, i + 1, _, h, e => by obtain ⟨v, vs', rfl, _, h2⟩ := h.cons_inv; simp only [List.getElem?_cons_succ] at e ⊢; exact VRl.get h2 e
theorem VRl.single {a : AV} {v : Value} (h : VR φ a v) : VRl φ [a] [v] := .cons h .nil
end
noncomputable def one : AV → Bool
  | .agg _ => false
  | .tup _ => false
  | .raw (.agg _) => false
  | .raw (.tuple _) => false
  | .cond _ _ => false
  | _ => true
noncomputable def ones : List AV → Bool
  | [] => true
  | a :: l => one a && ones l
theorem VR.one {φ : Phi} : ∀ {a : AV} {v : Value}, VR φ a v → Sv.one a = true → v.oneCell' = true ∧ v.cells = #[v] := by
  intro a v h h1
  cases a <;> simp only [VR] at h <;> (try simp only [Sv.one, Bool.false_eq_true] at h1)
  case raw u =>
    subst h
    cases v <;> first | exact ⟨rfl, rfl⟩ | simp [Sv.one] at h1
  case ptr => obtain ⟨x, κ, _, rfl⟩ := h; exact ⟨rfl, rfl⟩
  case row => obtain ⟨u, _, ⟨_, rfl | ⟨a, c, rfl⟩⟩ | ⟨b, o, c, rfl, _⟩⟩ := h <;> exact ⟨rfl, rfl⟩
  case fp => obtain ⟨b, o, u, rfl, _⟩ := h; exact ⟨rfl, rfl⟩
  case own => obtain ⟨_, a, n, c, rfl⟩ := h; exact ⟨rfl, rfl⟩
  case sl => obtain ⟨x, κ, _, ⟨_, _, rfl⟩ | ⟨_, rfl⟩⟩ := h <;> exact ⟨rfl, rfl⟩
  case map => obtain ⟨x, κ, _, rfl⟩ := h; exact ⟨rfl, rfl⟩
  case sle => obtain ⟨x, κ, rfl⟩ := h; exact ⟨rfl, rfl⟩
  case fn => obtain ⟨x, κ, _, _, rfl⟩ := h; exact ⟨rfl, rfl⟩
  case ifc => obtain ⟨x, _, rfl⟩ := h; exact ⟨rfl, rfl⟩
  all_goals (subst h; exact ⟨rfl, rfl⟩)
theorem VRl.ones {φ : Phi} : ∀ {l : List AV} {vs : List Value}, VRl φ l vs → Sv.ones l = true → ∀ v ∈ vs, v.oneCell' = true
  | [], _, h, _ => by rw [h.nil_inv]; simp
  | a :: l, _, h, k => by
    obtain ⟨v, vs', rfl, h1, h2⟩ := h.cons_inv
    simp only [Sv.ones, Bool.and_eq_true] at k
    intro u hu
    rcases List.mem_cons.1 hu with rfl | hu
    · exact (h1.one k.1).1
    · exact VRl.ones h2 k.2 u hu
noncomputable def cellsOf : AV → List AV
  | .agg l => l
  | a => [a]
noncomputable def aggd : AV → Bool
  | .raw (.agg _) => true
  | .cond _ _ => true
  | _ => false
theorem VR.cells {φ : Phi} {a : AV} {v : Value} (h : VR φ a v) (hr : aggd a = false) : VRl φ (cellsOf a) v.cells.toList := by
  by_cases h1 : Sv.one a = true
  · have : cellsOf a = [a] := by cases a <;> first | rfl | simp [Sv.one] at h1
    rw [this, (h.one h1).2]; exact .single h
  · cases a <;> simp only [Sv.one, not_true_eq_false] at h1
    case agg l => simp only [VR] at h; obtain ⟨vs, h, rfl⟩ := h; simpa [cellsOf, Value.cells] using h
    case tup l =>
      have h' := h
      simp only [VR] at h; obtain ⟨vs, _, rfl⟩ := h; exact .single h'
    case raw u =>
      have h' := h
      simp only [VR] at h; subst h
      cases v <;> simp [Sv.one, aggd] at h1 hr
      exact .single h'
    case cond => simp [aggd] at hr
mutual
noncomputable def frz : AV → Bool
  | .ptr _ _ => false
  | .sl _ _ _ _ _ => false
  | .map _ => false
  | .own _ => false
  | .fn _ first cap => frzl first && frzl cap
  | .ifc _ a => frz a
  | .agg l => frzl l
  | .tup l => frzl l
  | .cond _ a => frz a
  | _ => true
noncomputable def frzl : List AV → Bool
  | [] => true
  | a :: l => frz a && frzl l
end
mutual
theorem VR.fz : ∀ {a : AV} {φ : Phi} {v : Value}, VR φ a v → frz a = true → VR φ.fz a v
  | .bool _, _, _, k, _ => k
  | .int _ _, _, _, k, _ => k
  | .str _, _, _, k, _ => k
  | .ptr _ _, _, _, k, h => by cases h
  | .nilp, _, _, k, _ => k
  | .sl _ _ _ _ _, _, _, k, h => by cases h
  | .nils, _, _, k, _ => k
  | .sle, _, _, k, _ => k
  | .map _, _, _, k, h => by cases h
  | .nilm, _, _, k, _ => k
  | .fn _ _ _, φ, _, k, h => by
    simp only [VR] at k ⊢
    simp only [frz, Bool.and_eq_true] at h
    obtain ⟨a, b, e1, e2, r⟩ := k; exact ⟨a, b, VRl.fz e1 h.1, VRl.fz e2 h.2, r⟩
  | .nilf, _, _, k, _ => k
  | .ifc _ _, φ, _, k, h => by
    simp only [VR] at k ⊢
    simp only [frz] at h
    obtain ⟨u, e, r⟩ := k; exact ⟨u, VR.fz e h, r⟩
  | .nili, _, _, k, _ => k
  | .agg _, φ, _, k, h => by
    simp only [VR] at k ⊢
    simp only [frz] at h
    obtain ⟨u, e, r⟩ := k; exact ⟨u, VRl.fz e h, r⟩
  | .tup _, φ, _, k, h => by
    simp only [VR] at k ⊢
    simp only [frz] at h
    obtain ⟨u, e, r⟩ := k; exact ⟨u, VRl.fz e h, r⟩
  | .raw _, _, _, k, _ => k
  | .row _ _ _, φ, _, k, _ => by simp only [VR] at k ⊢; exact k
  | .fp _, φ, _, k, _ => by simp only [VR] at k ⊢; exact k
  | .own _, _, _, k, h => by cases h
  | .cond _ _, φ, _, k, h => by
    simp only [VR] at k ⊢
    simp only [frz] at h
    exact ⟨fun q => VR.fz (k.1 q) h, k.2⟩
theorem VRl.fz : ∀ {l : List AV} {φ : Phi} {vs : List Value}, VRl φ l vs → frzl l = true → VRl φ.fz l vs
  | [], _, _, k, _ => k
  | _ :: _, φ, _, k, h => by
    simp only [VRl] at k ⊢
    simp only [frzl, Bool.and_eq_true] at h
    obtain ⟨v, vs', e, e1, e2⟩ := k; exact ⟨v, vs', e, VR.fz e1 h.1, VRl.fz e2 h.2⟩
end
def Phi.cut (φ : Phi) (n : Nat) : Phi := ⟨fun b => if b < n then φ b else none, fun b => if b < n then φ.s b else none, φ.f⟩
mutual
noncomputable def low (n : Nat) : AV → Bool
  | .ptr b _ => Nat.ble (b + 1) n
  | .sl b _ _ _ _ => Nat.ble (b + 1) n
  | .map b => Nat.ble (b + 1) n
  | .own b => Nat.ble (b + 1) n
  | .fn _ first cap => lowl n first && lowl n cap
  | .ifc _ a => low n a
  | .agg l => lowl n l
  | .tup l => lowl n l
  | .cond _ a => low n a
  | _ => true
noncomputable def lowl (n : Nat) : List AV → Bool
  | [] => true
  | a :: l => low n a && lowl n l
end
theorem Phi.cut_m {φ : Phi} {n b : Nat} (h : Nat.ble (b + 1) n = true) : (φ.cut n) b = φ b := if_pos (Nat.le_of_ble_eq_true h)
theorem Phi.cut_s {φ : Phi} {n b : Nat} (h : Nat.ble (b + 1) n = true) : (φ.cut n).s b = φ.s b := if_pos (Nat.le_of_ble_eq_true h)
mutual
theorem VR.cut {n : Nat} : ∀ {a : AV} {φ : Phi} {v : Value}, VR φ a v → low n a = true → VR (φ.cut n) a v
  | .bool _, _, _, k, _ => k
  | .int _ _, _, _, k, _ => k
  | .str _, _, _, k, _ => k
  | .ptr _ _, _, _, k, h => by simp only [VR] at k ⊢; rw [Phi.cut_m h]; exact k
  | .nilp, _, _, k, _ => k
  | .sl _ _ _ _ _, _, _, k, h => by simp only [VR] at k ⊢; rw [Phi.cut_m h]; exact k
  | .nils, _, _, k, _ => k
  | .sle, _, _, k, _ => k
  | .map _, _, _, k, h => by simp only [VR] at k ⊢; rw [Phi.cut_m h]; exact k
  | .nilm, _, _, k, _ => k
  | .fn _ _ _, φ, _, k, h => by
    simp only [VR] at k ⊢
    simp only [low, Bool.and_eq_true] at h
    obtain ⟨a, b, e1, e2, r⟩ := k; exact ⟨a, b, VRl.cut e1 h.1, VRl.cut e2 h.2, r⟩
  | .nilf, _, _, k, _ => k
  | .ifc _ _, φ, _, k, h => by
    simp only [VR] at k ⊢
    simp only [low] at h
    obtain ⟨u, e, r⟩ := k; exact ⟨u, VR.cut e h, r⟩
  | .nili, _, _, k, _ => k
  | .agg _, φ, _, k, h => by
    simp only [VR] at k ⊢
    simp only [low] at h
    obtain ⟨u, e, r⟩ := k; exact ⟨u, VRl.cut e h, r⟩
  | .tup _, φ, _, k, h => by
    simp only [VR] at k ⊢
    simp only [low] at h
    obtain ⟨u, e, r⟩ := k; exact ⟨u, VRl.cut e h, r⟩
  | .raw _, _, _, k, _ => k
  | .row _ _ _, φ, _, k, _ => by simp only [VR] at k ⊢; exact k
  | .fp _, φ, _, k, _ => by simp only [VR] at k ⊢; exact k
  | .own _, _, _, k, h => by simp only [VR] at k ⊢; rw [Phi.cut_s h]; exact k
  | .cond _ _, φ, _, k, h => by
    simp only [VR] at k ⊢
    simp only [low] at h
    exact ⟨fun q => VR.cut (k.1 q) h, k.2⟩
theorem VRl.cut {n : Nat} : ∀ {l : List AV} {φ : Phi} {vs : List Value}, VRl φ l vs → lowl n l = true → VRl (φ.cut n) l vs
  | [], _, _, k, _ => k
  | _ :: _, φ, _, k, h => by
    simp only [VRl] at k ⊢
    simp only [lowl, Bool.and_eq_true] at h
    obtain ⟨v, vs', e, e1, e2⟩ := k; exact ⟨v, vs', e, VR.cut e1 h.1, VRl.cut e2 h.2⟩
end
theorem beq_false {a b : Nat} (h : a ≠ b) : Nat.beq a b = false := by rw [Bool.eq_false_iff]; intro h'; exact h (Nat.eq_of_beq_eq_true h')
theorem beq_cases (a b : Nat) : (Nat.beq a b = true ∧ a = b) ∨ (Nat.beq a b = false ∧ a ≠ b) := by
  by_cases h : a = b
  · exact .inl ⟨by rw [h]; exact Nat.beq_refl b, h⟩
  · exact .inr ⟨beq_false h, h⟩
end Sv
end Go.Proofs.YthhacfehjgfpbaaDoor
end
section
namespace Go.Proofs.YthhacfehjgfpbaaDoor
open Go Go.RowKit
set_option linter.unusedSimpArgs false
set_option linter.unusedVariables false
namespace Sv
noncomputable def ofS : Value → Option AV
  | .bool b => some (.bool b)
  | .int k n => some (.int k n)
  | .string s => some (.str s.data.toList)
  | .float k b => some (.raw (.float k b))
  | .complex k a b => some (.raw (.complex k a b))
  | .pointer none => some .nilp
  | .slice none 0 0 => some .nils
  | .map none => some .nilm
  | .nilFunc => some .nilf
  | .nilIface => some .nili
  | _ => none
noncomputable def ofSs : List Value → Option (List AV)
  | [] => some []
  | v :: l => match ofS v with
    | some a => match ofSs l with
      | some b => some (a :: b)
      | none => none
    | none => none
noncomputable def ofV : Value → Option AV
  | .agg cs => match ofSs cs.toList with
    | some l => some (.agg l)
    | none => none
  | .tuple cs => match cs.toList with
    | [] => some (.tup [])
    | _ => none
  | v => ofS v
theorem ofS_VR {φ : Phi} {v : Value} {a : AV} (h : ofS v = some a) : VR φ a v := by
  unfold ofS at h
  split at h <;> first | (cases h; simp [VR]; done) | cases h
theorem ofSs_VR {φ : Phi} : ∀ {l : List Value} {avs : List AV}, ofSs l = some avs → VRl φ avs l
  | [], _, h => by cases h; exact .nil
  | v :: l, _, h => by
    unfold ofSs at h
    split at h
    · rename_i a ha
      split at h
      · rename_i b hb; cases h; exact .cons (ofS_VR ha) (ofSs_VR hb)
      · cases h
    · cases h
theorem ofV_VR {φ : Phi} {v : Value} {a : AV} (h : ofV v = some a) : VR φ a v := by
  unfold ofV at h
  split at h
  · rename_i cs
    split at h
    · rename_i l hl; cases h; simp only [VR]; exact ⟨cs.toList, ofSs_VR hl, by simp⟩
    · cases h
  · rename_i cs
    split at h
    · rename_i hl; cases h; simp only [VR]; refine ⟨[], .nil, ?_⟩
      have : cs = #[] := by apply Array.ext'; simpa using hl
      rw [this]
    · cases h
  · exact ofS_VR h
noncomputable def pr {α : Type} (P : Program) : Sem α → Option α
  | .pure a => some a
  | .program k => pr P (k P)
  | .mark _ k => pr P k
  | _ => none
theorem pr_run {α : Type} {P : Program} : ∀ {s : Sem α} {a : α}, pr P s = some a → ∀ w, s.run P w = .ok a w := by
  intro s
  induction s with
  | pure a => intro b h w; simp only [pr, Option.some.injEq] at h; subst h; rfl
  | program k ih => intro b h w; simp only [pr] at h; exact ih P h w
  | mark m k ih => intro b h w; simp only [pr] at h; exact ih h w
  | _ => intro b h; simp [pr] at h
noncomputable def tsz (P : Program) (t : Nat) : Option Nat := match P.info? t with
  | some i => some i.size
  | none => none
theorem tsz_run {P : Program} {t n : Nat} (h : tsz P t = some n) (w : World) : (sizeOf t).run P w = .ok n w := by
  unfold tsz at h
  split at h
  · rename_i i hi; cases h; simp [sizeOf, typeInfo, hi, go_sem]
  · cases h
noncomputable def aggT (P : Program) (t : Nat) : Option Bool := match P.underlying t with
  | some (.struct _) => some true
  | some (.array _ _) => some true
  | some _ => some false
  | none => none
theorem aggT_run {P : Program} {t : Nat} {b : Bool} (h : aggT P t = some b) (w : World) : (isAgg t).run P w = .ok b w := by
  unfold aggT at h
  split at h
  · rename_i d hd; cases h; simp [isAgg, run_underlying hd, go_sem]
  · rename_i d hd; cases h; simp [isAgg, run_underlying hd, go_sem]
  · rename_i d h1 h2 hd
    cases h
    cases d <;> first | (simp [isAgg, run_underlying hd, go_sem]; done) | exact (h1 _ rfl).elim | exact (h2 _ _ rfl).elim
  · cases h
noncomputable def zeroA (P : Program) (t : Nat) : Option AV := match P.info? t with
  | some i => match i.zero with
    | some z => ofV z
    | none => none
  | none => none
theorem zeroA_run {P : Program} {t : Nat} {a : AV} (h : zeroA P t = some a) {φ : Phi} : ∃ v, (∀ w, (zeroValue t).run P w = .ok v w) ∧ VR φ a v := by
  unfold zeroA at h
  split at h
  · rename_i i hi
    split at h
    · rename_i z hz; exact ⟨z, fun w => by simp [zeroValue, typeInfo, hi, hz, go_sem], ofV_VR h⟩
    · cases h
  · cases h
noncomputable def partA (P : Program) (t : Nat) (l : List AV) (off : Nat) : Option AV := match aggT P t with
  | some true => match tsz P t with
    | some n => some (.agg ((l.drop off).take n))
    | none => none
  | some false => l[off]?
  | none => none
theorem partA_run {P : Program} {t off : Nat} {l : List AV} {a : AV} {φ : Phi} {vs : List Value} (h : partA P t l off = some a) (hl : VRl φ l vs) : ∃ v, (∀ w, (part t vs.toArray off).run P w = .ok v w) ∧ VR φ a v := by
  unfold partA at h
  split at h
  · rename_i ha
    split at h
    · rename_i n hn
      cases h
      refine ⟨.agg ((vs.drop off).take n).toArray, fun w => ?_, by simp only [VR]; exact ⟨_, (hl.drop off).take n, rfl⟩⟩
      have : vs.toArray.extract off (off + n) = ((vs.drop off).take n).toArray := by
        apply Array.ext'; simp [List.take_drop]
      simp [part, aggT_run ha, tsz_run hn, this, go_sem]
    · cases h
  · rename_i ha
    obtain ⟨v, hv, hr⟩ := hl.get h
    exact ⟨v, fun w => by simp [part, aggT_run ha, hv, go_sem], hr⟩
  · cases h
noncomputable def putCells : List AV → Nat → List AV → List AV
  | l, _, [] => l
  | l, o, a :: r => putCells (l.set o a) (o + 1) r
noncomputable def fillA (place : Nat → Option (Nat × Nat)) (cells : List AV) : List (Nat × AV) → Option (List AV)
  | [] => some cells
  | (i, a) :: rest => match place i with
    | none => none
    | some (off, size) =>
      bif Nat.beq (cellsOf a).length size && Nat.ble (off + (cellsOf a).length) cells.length && !aggd a then fillA place (putCells cells off (cellsOf a)) rest else none
theorem VRl.set {φ : Phi} : ∀ {l : List AV} {vs : List Value} (i : Nat) {a : AV} {v : Value}, VRl φ l vs → VR φ a v → VRl φ (l.set i a) (vs.set i v)
  | [], _, _, _, _, h, _ => by rw [h.nil_inv]; simp only [List.set_nil]; exact .nil
  | _ :: _, _, 0, _, _, h, k => by obtain ⟨v, vs', rfl, h1, h2⟩ := h.cons_inv; simp only [List.set_cons_zero]; exact .cons k h2
  | _ :: _, _, i + 1, _, _, h, k => by obtain ⟨v, vs', rfl, h1, h2⟩ := h.cons_inv; simp only [List.set_cons_succ]; exact .cons h1 (VRl.set i h2 k)
theorem foldl_put (φ : Phi) : ∀ (avs : List AV) (us : List Value) (l : List AV) (cs : Array Value) (o j : Nat), VRl φ avs us → VRl φ l cs.toList →
    VRl φ (putCells l (o + j) avs) ((us.zipIdx j).foldl (fun cs (c, j) => cs.setIfInBounds (o + j) c) cs).toList
  | [], us, l, cs, o, j, h, k => by rw [h.nil_inv]; simpa [putCells] using k
  | a :: avs, _, l, cs, o, j, h, k => by
    obtain ⟨v, us, rfl, h1, h2⟩ := h.cons_inv
    simp only [putCells, List.zipIdx_cons, List.foldl_cons]
    rw [Nat.add_assoc]
    refine foldl_put φ avs us _ _ o (j + 1) h2 ?_
    rw [Array.toList_setIfInBounds]
    exact k.set _ h1
def NR (φ : Phi) : List (Nat × AV) → List (Nat × Value) → Prop
  | [], l => l = []
  | (i, a) :: r, l => ∃ v l', l = (i, v) :: l' ∧ VR φ a v ∧ NR φ r l'
theorem fillA_run {φ : Phi} (place : Nat → Option (Nat × Nat)) : ∀ (ps : List (Nat × AV)) (qs : List (Nat × Value)) (l : List AV) (cs : Array Value) (r : List AV), fillA place l ps = some r → NR φ ps qs → VRl φ l cs.toList →
    ∃ rs : Array Value, Instr.fill place cs qs = some rs ∧ VRl φ r rs.toList
  | [], qs, l, cs, r, h, k, hl => by
    simp only [NR] at k; subst k; cases h; exact ⟨cs, rfl, hl⟩
  | (i, a) :: ps, qs, l, cs, r, h, k, hl => by
    simp only [NR] at k
    obtain ⟨v, l', rfl, h1, h2⟩ := k
    unfold fillA at h
    unfold Instr.fill
    cases hp : place i with
    | none => rw [hp] at h; cases h
    | some x =>
      obtain ⟨off, size⟩ := x
      rw [hp] at h
      simp only at h ⊢
      cases hb : (Nat.beq (cellsOf a).length size && Nat.ble (off + (cellsOf a).length) l.length && !aggd a) with
      | false => rw [hb] at h; cases h
      | true =>
        rw [hb, cond_true] at h
        simp only [Bool.and_eq_true, Bool.not_eq_true'] at hb
        obtain ⟨⟨hb1, hb2⟩, hb3⟩ := hb
        have hc := h1.cells hb3
        have e1 : v.cells.size = size := by have := hc.length; simp only [Array.length_toList] at this; rw [this]; exact Nat.eq_of_beq_eq_true hb1
        have e2 : ¬ (off + v.cells.size > cs.size) := by
          have := hc.length; simp only [Array.length_toList] at this
          have h3 := hl.length; simp only [Array.length_toList] at h3
          have := Nat.le_of_ble_eq_true hb2
          omega
        have e3 : (v.cells.size ≠ size || off + v.cells.size > cs.size) = false := by simp [e1]; omega
        rw [if_neg (by simp [e1]; rw [e1] at e2; omega)]
        refine fillA_run place ps l' _ _ r h h2 ?_
        have := foldl_put φ (cellsOf a) v.cells.toList l cs off 0 hc hl
        rw [← Array.foldl_toList, Array.toList_zipIdx]
        simpa using this
section
variable (P : Program) (ev : Operand → Option AV)
noncomputable def toV : AV → Option Value
  | .bool b => some (.bool b)
  | .int k n => some (.int k n)
  | .raw v => some v
  | _ => none
noncomputable def sc (x : Operand) : Value := match ev x with
  | some a => match toV a with
    | some v => v
    | none => undef
  | none => undef
noncomputable def isSc (x : Operand) : Bool := match ev x with
  | some a => match toV a with
    | some _ => true
    | none => false
  | none => false
noncomputable def allSc : List Operand → Bool
  | [] => true
  | x :: l => isSc ev x && allSc l
noncomputable def ofScal : Value → Option AV
  | .bool b => some (.bool b)
  | .int k n => some (.int k n)
  | .float k b => some (.raw (.float k b))
  | .complex k a b => some (.raw (.complex k a b))
  | .string s => some (.str s.data.toList)
  | _ => none
noncomputable def notSel : Op → Bool
  | .select _ _ => false
  | _ => true
noncomputable def scal (o : Oper) : Option AV := bif notSel o.op && allSc ev o.op.operands.toList then match pr P (execOp (sc ev) o) with
  | some (.value v) => ofScal v
  | _ => none else none
noncomputable def toV0 : AV → Option Value
  | .str l => some (.string ⟨l.toArray⟩)
  | .nilp => some (.pointer none)
  | .nilm => some (.map none)
  | .nilf => some .nilFunc
  | .nili => some .nilIface
  | a => toV a
noncomputable def toV0s : List AV → Option (List Value)
  | [] => some []
  | a :: l => match toV0 a with
    | some v => match toV0s l with
      | some r => some (v :: r)
      | none => none
    | none => none
noncomputable def toVS : AV → Option Value
  | .str l => some (.string ⟨l.toArray⟩)
  | .fn f [] [] => some (.func (.func f) #[] #[])
  | .agg l => match toV0s l with
    | some r => some (.agg r.toArray)
    | none => none
  | a => toV a
noncomputable def scS (x : Operand) : Value := match ev x with
  | some a => match toVS a with
    | some v => v
    | none => undef
  | none => undef
noncomputable def isScS (x : Operand) : Bool := match ev x with
  | some a => match toVS a with
    | some _ => true
    | none => false
  | none => false
noncomputable def allScS : List Operand → Bool
  | [] => true
  | x :: l => isScS ev x && allScS l
noncomputable def bodyless (f : Nat) : Bool := match P.funcs[f]? with
  | some fn => fn.body.isNone
  | none => false
noncomputable def scalS (o : Oper) : Option AV := bif notSel o.op && allScS ev o.op.operands.toList then match pr P (execOp (scS ev) o) with
  | some (.value v) => ofScal v
  | _ => none else none
noncomputable def externA (o : Oper) : Option AV := match o.op with
  | .call c => match c.callee with
    | .value x => match ev x with
      | some (.fn f [] []) => bif bodyless P f && allScS ev o.op.operands.toList then match pr P (execOp (scS ev) o) with
          | some (.value v) => ofScal v
          | _ => none else none
      | _ => none
    | _ => none
  | _ => none
end
def EVR (φ : Phi) (ev : Operand → Option AV) (ρ : Operand → Value) : Prop := ∀ x a, ev x = some a → VR φ a (ρ x)
section
variable {P : Program} {ev : Operand → Option AV} {φ : Phi} {ρ : Operand → Value}
theorem toV_VR {a : AV} {v u : Value} (h : toV a = some v) (k : VR φ a u) : u = v := by
  cases a <;> simp only [toV, Option.some.injEq, reduceCtorEq] at h <;> subst h <;> simpa only [VR] using k
theorem isSc_eq (hev : EVR φ ev ρ) {x : Operand} (h : isSc ev x = true) : sc ev x = ρ x := by
  unfold isSc at h
  unfold sc
  split at h
  · rename_i a ha
    split at h
    · rename_i v hv
      exact (toV_VR hv (hev _ _ ha)).symm
    · cases h
  · cases h
theorem allSc_eq (hev : EVR φ ev ρ) : ∀ {l : List Operand}, allSc ev l = true → ∀ x ∈ l, sc ev x = ρ x
  | [], _ => by simp
  | y :: l, h => by
    simp only [allSc, Bool.and_eq_true] at h
    intro x hx
    rcases List.mem_cons.1 hx with rfl | hx
    · exact isSc_eq hev h.1
    · exact allSc_eq hev h.2 x hx
theorem ofScal_VR {v : Value} {a : AV} (h : ofScal v = some a) : VR φ a v := by
  unfold ofScal at h
  split at h <;> first | (cases h; simp [VR]; done) | cases h
def PureOK (P : Program) (φ : Phi) (ρ : Operand → Value) (o : Oper) (a : AV) : Prop := ∃ v, (∀ w, (execOp ρ o).run P w = .ok (.value v) w) ∧ VR φ a v
theorem scal_ok (hev : EVR φ ev ρ) {o : Oper} {a : AV} (h : scal P ev o = some a) : PureOK P φ ρ o a := by
  unfold scal at h
  cases hb : (notSel o.op && allSc ev o.op.operands.toList) with
  | false => rw [hb] at h; cases h
  | true =>
    rw [hb, cond_true] at h
    simp only [Bool.and_eq_true] at hb
    split at h
    · rename_i v hv
      refine ⟨v, fun w => ?_, ofScal_VR h⟩
      have he : execOp ρ o = execOp (sc ev) o := execOp_congr o (fun cs b e => by rw [e] at hb; simp [notSel] at hb) (fun x hx => (allSc_eq hev hb.2 x (by simpa using hx)).symm)
      rw [he]; exact pr_run hv w
    · cases h
theorem toV0_VR {a : AV} {v u : Value} (h : toV0 a = some v) (k : VR φ a u) : u = v := by
  unfold toV0 at h
  split at h <;> first | (cases h; simpa only [VR] using k) | exact toV_VR h k
theorem toV0s_VR : ∀ {l : List AV} {vs us : List Value}, toV0s l = some vs → VRl φ l us → us = vs
  | [], _, _, h, k => by cases h; exact k.nil_inv
  | a :: l, _, _, h, k => by
    unfold toV0s at h
    split at h
    · rename_i v hv
      split at h
      · rename_i r hr
        cases h
        obtain ⟨u, us', rfl, k1, k2⟩ := k.cons_inv
        rw [toV0_VR hv k1, toV0s_VR hr k2]
      · cases h
    · cases h
theorem toVS_VR {a : AV} {v u : Value} (h : toVS a = some v) (k : VR φ a u) : u = v := by
  unfold toVS at h
  split at h
  · cases h; simpa only [VR] using k
  · cases h
    simp only [VR] at k
    obtain ⟨vf, vc, h1, h2, k⟩ := k
    rw [h1.nil_inv, h2.nil_inv] at k; exact k
  · split at h
    · rename_i r hr
      cases h
      simp only [VR] at k
      obtain ⟨us, k1, k⟩ := k
      rw [toV0s_VR hr k1] at k; exact k
    · cases h
  · exact toV_VR h k
theorem isScS_eq (hev : EVR φ ev ρ) {x : Operand} (h : isScS ev x = true) : scS ev x = ρ x := by
  unfold isScS at h
  unfold scS
  split at h
  · rename_i a ha
    split at h
    · rename_i v hv
      exact (toVS_VR hv (hev _ _ ha)).symm
    · cases h
  · cases h
theorem allScS_eq (hev : EVR φ ev ρ) : ∀ {l : List Operand}, allScS ev l = true → ∀ x ∈ l, scS ev x = ρ x
  | [], _ => by simp
  | y :: l, h => by
    simp only [allScS, Bool.and_eq_true] at h
    intro x hx
    rcases List.mem_cons.1 hx with rfl | hx
    · exact isScS_eq hev h.1
    · exact allScS_eq hev h.2 x hx
theorem scalS_ok (hev : EVR φ ev ρ) {o : Oper} {a : AV} (h : scalS P ev o = some a) : PureOK P φ ρ o a := by
  unfold scalS at h
  cases hb : (notSel o.op && allScS ev o.op.operands.toList) with
  | false => rw [hb] at h; cases h
  | true =>
    rw [hb, cond_true] at h
    simp only [Bool.and_eq_true] at hb
    split at h
    · rename_i v hv
      refine ⟨v, fun w => ?_, ofScal_VR h⟩
      have he : execOp ρ o = execOp (scS ev) o := execOp_congr o (fun cs b e => by rw [e] at hb; simp [notSel] at hb) (fun x hx => (allScS_eq hev hb.2 x (by simpa using hx)).symm)
      rw [he]; exact pr_run hv w
    · cases h
theorem externA_ok (hev : EVR φ ev ρ) {o : Oper} {a : AV} (h : externA P ev o = some a) : PureOK P φ ρ o a := by
  unfold externA at h
  split at h
  · rename_i c hop
    split at h
    · split at h
      · rename_i f _
        cases hb : (bodyless P f && allScS ev o.op.operands.toList) with
        | false => rw [hb] at h; cases h
        | true =>
          rw [hb, cond_true] at h
          simp only [Bool.and_eq_true] at hb
          split at h
          · rename_i v hv
            refine ⟨v, fun w => ?_, ofScal_VR h⟩
            have he : execOp ρ o = execOp (scS ev) o := execOp_congr o (fun cs b e => by rw [hop] at e; cases e) (fun x hx => (allScS_eq hev hb.2 x (by simpa using hx)).symm)
            rw [he]; exact pr_run hv w
          · cases h
      · cases h
    · cases h
  · cases h
end
end Sv
end Go.Proofs.YthhacfehjgfpbaaDoor
end
section
namespace Go.Proofs.YthhacfehjgfpbaaDoor
open Go Go.RowKit
set_option linter.unusedSimpArgs false
set_option linter.unusedVariables false
namespace Sv
theorem S_size (l : List UInt8) : (⟨l.toArray⟩ : ByteArray).size = l.length := by simp [ByteArray.size]
theorem S_toList (l : List UInt8) : (⟨l.toArray⟩ : ByteArray).toList = l := by rw [Lib.toList_data]
theorem addr_add (b o j : Nat) : (⟨b, o, none⟩ : Addr).add j = ⟨b, o + j, none⟩ := by unfold Addr.add; split <;> simp_all
noncomputable def natOf : AV → Option Nat
  | .int _ (.ofNat n) => some n
  | _ => none
theorem natOf_VR {φ : Phi} {a : AV} {n : Nat} {v : Value} (h : natOf a = some n) (k : VR φ a v) : ∃ kd, v = .int kd (n : Int) := by
  unfold natOf at h
  split at h
  · cases h; simp only [VR] at k; exact ⟨_, k⟩
  · cases h
section
variable (P : Program)
noncomputable def strEq : List UInt8 → List UInt8 → Bool
  | [], [] => true
  | a :: l, b :: m => Nat.beq a.toNat b.toNat && strEq l m
  | _, _ => false
theorem strEq_iff : ∀ (l m : List UInt8), strEq l m = decide (l = m)
  | [], [] => rfl
  | [], _ :: _ => by simp [strEq]
  | _ :: _, [] => by simp [strEq]
  | a :: l, b :: m => by
    simp only [strEq, strEq_iff l m, List.cons.injEq, Bool.decide_and]
    congr 1
    by_cases h : a = b
    · subst h; simp
    · have : a.toNat ≠ b.toNat := fun e => h (UInt8.toNat_inj.1 e)
      rw [beq_false this]; simp [h]
noncomputable def binA (op : BinOp) (t : Nat) (a b : AV) : Option AV := match op, a, b with
  | .eql, .str x, .str y => some (.bool (strEq x y))
  | .neq, .str x, .str y => some (.bool (!strEq x y))
  | .lss, .str x, .str y => some (.bool (Op.bytesLess x y))
  | .gtr, .str x, .str y => some (.bool (!(Op.bytesLess x y || strEq x y)))
  | .leq, .str x, .str y => some (.bool (Op.bytesLess x y || strEq x y))
  | .geq, .str x, .str y => some (.bool (!Op.bytesLess x y))
  | .add, .str x, .str y => bif Nat.ble (x.length + y.length) 1000000 then some (.str (x ++ y)) else none
  | op, a, b => match op with
    | .eql => nilEq a b
    | .neq => match nilEq a b with
      | some (.bool r) => some (.bool (!r))
      | _ => none
    | _ => none
where nilEq (a b : AV) : Option AV := match P.underlying t, a, b with
  | some (.pointer _), .ptr _ _, .nilp => some (.bool false)
  | some (.pointer _), .nilp, .ptr _ _ => some (.bool false)
  | some (.pointer _), .nilp, .nilp => some (.bool true)
  | some (.slice _), .nils, .sl _ _ _ _ _ => some (.bool false)
  | some (.slice _), .sl _ _ _ _ _, .nils => some (.bool false)
  | some (.slice _), .nils, .nils => some (.bool true)
  | some (.slice _), .sle, .nils => some (.bool false)
  | some (.slice _), .nils, .sle => some (.bool false)
  | some (.interface _), .ifc _ _, .nili => some (.bool false)
  | some (.interface _), .nili, .ifc _ _ => some (.bool false)
  | some (.func _ _ _), .fn _ _ _, .nilf => some (.bool false)
  | some (.func _ _ _), .nilf, .nilf => some (.bool true)
  | _, _, _ => none
end
section
variable {P : Program} {φ : Phi}
theorem nilEq_ok {t : Nat} {a b r : AV} {x y : Value} (h : binA.nilEq P t a b = some r) (hx : VR φ a x) (hy : VR φ b y) : ∃ q, r = .bool q ∧ ∀ w, (Op.equal t x y).run P w = .ok q w := by
  unfold binA.nilEq at h
  split at h <;> first | cases h | skip
  all_goals
    rename_i hu
    refine ⟨_, rfl, fun w => ?_⟩
    simp only [VR] at hx hy
    unfold Op.equal Op.maxDepth Op.equalIn
    first
      | (obtain ⟨x1, κ1, e1, rfl⟩ := hx; subst hy; simp [run_underlying hu, go_sem]; done)
      | (obtain ⟨x1, κ1, e1, rfl⟩ := hy; subst hx; simp [run_underlying hu, go_sem]; done)
      | (obtain ⟨x1, κ1, e1, ⟨_, _, rfl⟩ | ⟨_, rfl⟩⟩ := hx <;> subst hy <;> simp [run_underlying hu, go_sem]; done)
      | (obtain ⟨x1, κ1, e1, ⟨_, _, rfl⟩ | ⟨_, rfl⟩⟩ := hy <;> subst hx <;> simp [run_underlying hu, go_sem]; done)
      | (obtain ⟨x1, e1, rfl⟩ := hx; subst hy; simp [run_underlying hu, go_sem]; done)
      | (obtain ⟨x1, e1, rfl⟩ := hy; subst hx; simp [run_underlying hu, go_sem]; done)
      | (obtain ⟨x1, x2, rfl⟩ := hx; subst hy; simp [run_underlying hu, go_sem]; done)
      | (obtain ⟨x1, x2, rfl⟩ := hy; subst hx; simp [run_underlying hu, go_sem]; done)
      | (obtain ⟨x1, x2, e1, e2, rfl⟩ := hx; subst hy; simp [run_underlying hu, go_sem]; done)
      | (subst hx; subst hy; simp [run_underlying hu, go_sem]; done)
end
end Sv
end Go.Proofs.YthhacfehjgfpbaaDoor
end
section
namespace Go.Proofs.YthhacfehjgfpbaaDoor
open Go Go.RowKit
set_option linter.unusedSimpArgs false
set_option linter.unusedVariables false
namespace Sv
section
variable (P : Program)
noncomputable def boundLo : Option (Option AV) → Option Nat
  | none => some 0
  | some (some a) => natOf a
  | some none => none
noncomputable def boundHi (d : Nat) : Option (Option AV) → Option Nat
  | none => some d
  | some (some a) => natOf a
  | some none => none
noncomputable def sliceStr (l : List UInt8) (lo hi : Option (Option AV)) : Option AV := match boundLo lo, boundHi l.length hi with
  | some i, some j => bif Nat.ble i j && Nat.ble j l.length then some (.str ((l.take j).drop i)) else none
  | _, _ => none
noncomputable def okMx : Option (Option AV) → Option (Option AV) → Bool
  | some _, none => false
  | _, _ => true
noncomputable def sliceEx (b off len cap size : Nat) (lo hi mx : Option (Option AV)) : Option AV := match boundLo lo, boundHi len hi, boundHi cap mx with
  | some i, some j, some m => bif Nat.ble i j && Nat.ble j m && Nat.ble m cap && okMx mx hi then some (.sl b (bif Nat.beq m i then off else off + i * size) (j - i) (m - i) false) else none
  | _, _, _ => none
noncomputable def sliceOp (b off len d size : Nat) (lo hi mx : Option (Option AV)) : Option AV := match mx with
  | none => match boundLo lo, boundHi len hi with
    | some i, some j => bif Nat.ble i j && Nat.ble j len then (bif Nat.beq i 0 then some (.sl b off j d true) else bif Nat.beq i len then some .sle else some (.sl b (off + i * size) (j - i) (d + i) true)) else none
    | _, _ => none
  | some _ => match hi with
    | none => none
    | some _ => match boundLo lo, boundHi len hi, boundHi len mx with
      | some i, some j, some m => bif Nat.ble i j && Nat.ble j m && Nat.ble m len then some (.sl b (bif Nat.beq m i then off else off + i * size) (j - i) (m - i) false) else none
      | _, _, _ => none
noncomputable def sliceA (t : Nat) (a : AV) (lo hi mx : Option (Option AV)) : Option AV := match P.underlying t with
  | some .string => match a, mx with
    | .str l, none => sliceStr l lo hi
    | _, _ => none
  | some (.slice e) => match tsz P e with
    | some size => match a with
      | .sl b off len cap false => sliceEx b off len cap size lo hi mx
      | .sl b off len d true => sliceOp b off len d size lo hi mx
      | .nils => match boundLo lo, boundHi 0 hi, boundHi 0 mx with
        | some 0, some 0, some 0 => match mx, hi with
          | some _, none => none
          | _, _ => some .nils
        | _, _, _ => none
      | _ => none
    | none => none
  | some (.array n e) => match tsz P e with
    | some size => match a with
      | .ptr b off => sliceEx b off n n size lo hi mx
      | _ => none
    | none => none
  | _ => none
end
section
variable {P : Program} {φ : Phi}
def BR (φ : Phi) : Option (Option AV) → Option Value → Prop
  | none, v => v = none
  | some (some a), v => ∃ u, v = some u ∧ VR φ a u
  | some none, _ => True
theorem boundHi_ok {d n cap : Nat} {x : Option (Option AV)} {v : Option Value} (h : boundHi d x = some n) (k : BR φ x v) : (x = none ∧ v = none ∧ n = d) ∨ (x ≠ none ∧ ∃ kd, v = some (.int kd (n : Int))) := by
  unfold boundHi at h
  split at h
  · cases h; simp only [BR] at k; exact .inl ⟨rfl, k, rfl⟩
  · simp only [BR] at k
    obtain ⟨u, rfl, hu⟩ := k
    obtain ⟨kd, rfl⟩ := natOf_VR h hu
    exact .inr ⟨by simp, kd, rfl⟩
  · cases h
theorem boundLo_ok {n : Nat} {x : Option (Option AV)} {v : Option Value} (h : boundLo x = some n) (k : BR φ x v) : (x = none ∧ v = none ∧ n = 0) ∨ (x ≠ none ∧ ∃ kd, v = some (.int kd (n : Int))) := by
  unfold boundLo at h
  split at h
  · cases h; simp only [BR] at k; exact .inl ⟨rfl, k, rfl⟩
  · simp only [BR] at k
    obtain ⟨u, rfl, hu⟩ := k
    obtain ⟨kd, rfl⟩ := natOf_VR h hu
    exact .inr ⟨by simp, kd, rfl⟩
  · cases h
theorem run_bounds {isS : Bool} {len cap i j m : Nat} {lo hi mx : Option Value} (h1 : (lo = none ∧ i = 0) ∨ ∃ k, lo = some (.int k (i : Int))) (h2 : (hi = none ∧ j = len) ∨ ∃ k, hi = some (.int k (j : Int))) (h3 : (mx = none ∧ m = cap) ∨ ((∃ k, mx = some (.int k (m : Int))) ∧ hi ≠ none))
    (hij : i ≤ j) (hjm : j ≤ m) (hm : m ≤ cap) (w : World) : (Instr.sliceBounds isS len cap lo hi mx).run P w = .ok (i, j, m) w := by
  have e1 : (0 : Int) ≤ (i : Int) ∧ (i : Int) ≤ (j : Int) := by omega
  have e2 : (0 : Int) ≤ (j : Int) ∧ (j : Int) ≤ (m : Int) := by omega
  have e3 : (0 : Int) ≤ (m : Int) ∧ (m : Int) ≤ (cap : Int) := by omega
  rcases h1 with ⟨rfl, rfl⟩ | ⟨k1, rfl⟩ <;> rcases h2 with ⟨rfl, rfl⟩ | ⟨k2, rfl⟩ <;> rcases h3 with ⟨rfl, rfl⟩ | ⟨⟨k3, rfl⟩, hne⟩ <;>
    first
      | exact absurd rfl hne
      | (simp [Instr.sliceBounds, Instr.sliceBound, asIntOf, e1.2, e2.2, e3.2, go_sem]; done)
      | (simp [Instr.sliceBounds, Instr.sliceBound, asIntOf, e1, e2, e3, go_sem]; done)
      | (simp [Instr.sliceBounds, Instr.sliceBound, asIntOf, hij, hjm, hm, Nat.not_lt.2 hij, Nat.not_lt.2 hjm, Nat.not_lt.2 hm, go_sem]; done)
theorem ble_of {a b : Nat} (h : Nat.ble a b = true) : a ≤ b := Nat.le_of_ble_eq_true h
theorem sliceA_ok {t : Nat} {a r : AV} {x : Value} {lo hi mx : Option (Option AV)} {vl vh vm : Option Value} (h : sliceA P t a lo hi mx = some r) (hx : VR φ a x) (hl : BR φ lo vl) (hh : BR φ hi vh) (hm : BR φ mx vm) :
    ∃ v, (∀ w, (Instr.sliceAt t x vl vh vm).run P w = .ok v w) ∧ VR φ r v := by
  have lo' : ∀ {n}, boundLo lo = some n → (vl = none ∧ n = 0) ∨ ∃ k, vl = some (.int k (n : Int)) := fun e => (boundLo_ok e hl).imp (fun q => q.2) (fun q => q.2)
  have hi' : ∀ {d n}, boundHi d hi = some n → (vh = none ∧ n = d) ∨ ∃ k, vh = some (.int k (n : Int)) := fun e => (boundHi_ok (cap := 0) e hh).imp (fun q => q.2) (fun q => q.2)
  have hi'' : hi ≠ none → ∀ {d n}, boundHi d hi = some n → vh ≠ none := by
    intro hne d n e
    rcases boundHi_ok (cap := 0) e hh with ⟨q, _⟩ | ⟨_, k, q⟩
    · exact absurd q hne
    · rw [q]; simp
  unfold sliceA at h
  split at h
  · rename_i hu
    split at h
    · rename_i l
      simp only [VR] at hx; subst hx
      have hm' : vm = none := by simpa only [BR] using hm
      subst hm'
      unfold sliceStr at h
      split at h
      · rename_i i j hi1 hj1
        cases hc : (Nat.ble i j && Nat.ble j l.length) with
        | false => rw [hc] at h; cases h
        | true =>
          rw [hc, cond_true] at h; cases h
          simp only [Bool.and_eq_true] at hc
          have hb := fun w => run_bounds (P := P) (isS := false) (cap := l.length) (m := l.length) (mx := none) (lo' hi1) (hi' hj1) (.inl ⟨rfl, rfl⟩) (ble_of hc.1) (ble_of hc.2) (Nat.le_refl _) w
          refine ⟨.string ⟨((l.take j).drop i).toArray⟩, fun w => ?_, by simp [VR]⟩
          have he : (⟨l.toArray⟩ : ByteArray).extract i j = ⟨((l.take j).drop i).toArray⟩ := by
            apply ByteArray.ext; simp [ByteArray.data_extract, List.drop_take]
          simp only [Instr.sliceAt, Instr.slice, Sem.run_bind, Sem.run_pure, run_underlying hu, Result.andThen_ok, S_size, hb, he, Option.isSome_none, Bool.false_eq_true, if_false]
      · cases h
    · cases h
  · rename_i e hu
    split at h
    · rename_i size hs
      split at h
      · rename_i b off len cap
        simp only [VR] at hx
        obtain ⟨y, κ, hφ, ⟨h0, _⟩ | ⟨_, rfl⟩⟩ := hx
        · cases h0
        unfold sliceEx at h
        split at h
        · rename_i i j m hi1 hj1 hm1
          cases hc : (Nat.ble i j && Nat.ble j m && Nat.ble m cap && okMx mx hi) with
          | false => rw [hc] at h; cases h
          | true =>
            rw [hc, cond_true] at h; cases h
            simp only [Bool.and_eq_true] at hc
            obtain ⟨⟨⟨c1, c2⟩, c3⟩, c4⟩ := hc
            have hmx : (vm = none ∧ m = cap) ∨ ((∃ k, vm = some (.int k (m : Int))) ∧ vh ≠ none) := by
              rcases boundHi_ok (cap := 0) hm1 hm with ⟨q1, q2, q3⟩ | ⟨q1, q2⟩
              · exact .inl ⟨q2, q3⟩
              · refine .inr ⟨q2, ?_⟩
                cases mx with
                | none => exact absurd rfl q1
                | some z => cases hi with
                  | none => cases c4
                  | some u => exact hi'' (by simp) hj1
            have hb := fun w => run_bounds (P := P) (isS := true) (lo' hi1) (hi' hj1) hmx (ble_of c1) (ble_of c2) (ble_of c3) w
            refine ⟨.slice (some (if m = i then ⟨y, off, none⟩ else (⟨y, off, none⟩ : Addr).add (i * size))) (j - i) (m - i), fun w => ?_, ?_⟩
            · simp only [Instr.sliceAt, Instr.slice, Sem.run_bind, Sem.run_pure, run_underlying hu, Result.andThen_ok, hb, tsz_run hs] <;> (try split) <;> rfl
            · simp only [VR]
              refine ⟨y, κ, hφ, .inr ⟨by trivial, ?_⟩⟩
              rcases beq_cases m i with ⟨q, q'⟩ | ⟨q, q'⟩
              · simp [q, q']
              · simp [q, q', addr_add]
        · cases h
      · rename_i b off len d
        simp only [VR] at hx
        obtain ⟨y, κ, hφ, ⟨_, hκ, rfl⟩ | ⟨h0, _⟩⟩ := hx
        case inr => cases h0
        unfold sliceOp at h
        split at h
        · have hm' : vm = none := by simpa only [BR] using hm
          subst hm'
          split at h
          · rename_i i j hi1 hj1
            cases hc : (Nat.ble i j && Nat.ble j len) with
            | false => rw [hc] at h; cases h
            | true =>
              rw [hc, cond_true] at h
              simp only [Bool.and_eq_true] at hc
              have c1 := ble_of hc.1; have c2 := ble_of hc.2
              have hb := fun w => run_bounds (P := P) (isS := true) (cap := κ - d) (m := κ - d) (mx := none) (lo' hi1) (hi' hj1) (.inl ⟨rfl, rfl⟩) c1 (by omega) (Nat.le_refl _) w
              refine ⟨.slice (some (if κ - d = i then ⟨y, off, none⟩ else (⟨y, off, none⟩ : Addr).add (i * size))) (j - i) (κ - d - i), fun w => ?_, ?_⟩
              · simp only [Instr.sliceAt, Instr.slice, Sem.run_bind, Sem.run_pure, run_underlying hu, Result.andThen_ok, hb, tsz_run hs] <;> (try split) <;> rfl
              · rcases beq_cases i 0 with ⟨q, rfl⟩ | ⟨q, q'⟩
                · rw [q, cond_true] at h; cases h
                  simp only [VR]
                  refine ⟨y, κ, hφ, .inl ⟨by trivial, by omega, ?_⟩⟩
                  by_cases h0 : κ - d = 0
                  · simp [h0]
                  · simp [h0, Addr.add]
                · rw [q, cond_false] at h
                  rcases beq_cases i len with ⟨p, rfl⟩ | ⟨p, p'⟩
                  · rw [p, cond_true] at h; cases h
                    simp only [VR]
                    exact ⟨_, _, by rw [show j - i = 0 by omega]⟩
                  · rw [p, cond_false] at h; cases h
                    simp only [VR]
                    refine ⟨y, κ, hφ, .inl ⟨by trivial, by omega, ?_⟩⟩
                    rw [if_neg (by omega), addr_add, show κ - d - i = κ - (d + i) by omega]
          · cases h
        · split at h
          · cases h
          · split at h
            · rename_i i j m hi1 hj1 hm1
              cases hc : (Nat.ble i j && Nat.ble j m && Nat.ble m len) with
              | false => rw [hc] at h; cases h
              | true =>
                rw [hc, cond_true] at h; cases h
                simp only [Bool.and_eq_true] at hc
                obtain ⟨⟨c1, c2⟩, c3⟩ := hc
                have hmx : (vm = none ∧ m = κ - d) ∨ ((∃ k, vm = some (.int k (m : Int))) ∧ vh ≠ none) := by
                  rcases boundHi_ok (cap := 0) hm1 hm with ⟨q1, q2, q3⟩ | ⟨q1, q2⟩
                  · cases q1
                  · exact .inr ⟨q2, hi'' (by simp) hj1⟩
                have hb := fun w => run_bounds (P := P) (isS := true) (lo' hi1) (hi' hj1) hmx (ble_of c1) (ble_of c2) (by have := ble_of c3; omega) w
                refine ⟨.slice (some (if m = i then ⟨y, off, none⟩ else (⟨y, off, none⟩ : Addr).add (i * size))) (j - i) (m - i), fun w => ?_, ?_⟩
                · simp only [Instr.sliceAt, Instr.slice, Sem.run_bind, Sem.run_pure, run_underlying hu, Result.andThen_ok, hb, tsz_run hs] <;> (try split) <;> rfl
                · simp only [VR]
                  refine ⟨y, κ, hφ, .inr ⟨by trivial, ?_⟩⟩
                  rcases beq_cases m i with ⟨q, q'⟩ | ⟨q, q'⟩
                  · simp [q, q']
                  · simp [q, q', addr_add]
            · cases h
      · simp only [VR] at hx; subst hx
        split at h
        · rename_i hi1 hj1 hm1
          have key : r = .nils ∧ ((vm = none ∧ (0 : Nat) = 0) ∨ ((∃ k, vm = some (.int k ((0 : Nat) : Int))) ∧ vh ≠ none)) := by
            rcases boundHi_ok (cap := 0) hm1 hm with ⟨q1, q2, q3⟩ | ⟨q1, q2⟩
            · subst q1; simp only [Option.some.injEq] at h; exact ⟨h.symm, .inl ⟨q2, rfl⟩⟩
            · cases mx with
              | none => exact absurd rfl q1
              | some z => cases hi with
                | none => simp at h
                | some u => simp only [Option.some.injEq] at h; exact ⟨h.symm, .inr ⟨q2, hi'' (by simp) hj1⟩⟩
          obtain ⟨rfl, hmx⟩ := key
          have hb := fun w => run_bounds (P := P) (isS := true) (lo' hi1) (hi' hj1) hmx (Nat.le_refl _) (Nat.le_refl _) (Nat.le_refl _) w
          refine ⟨.slice none 0 0, fun w => ?_, by simp [VR]⟩
          simp only [Instr.sliceAt, Instr.slice, Sem.run_bind, Sem.run_pure, run_underlying hu, Result.andThen_ok, hb, tsz_run hs] <;> (try split) <;> rfl
        · cases h
      · cases h
    · cases h
  · rename_i n e hu
    split at h
    · rename_i size hs
      split at h
      · rename_i b off
        simp only [VR] at hx
        obtain ⟨y, κ, hφ, rfl⟩ := hx
        unfold sliceEx at h
        split at h
        · rename_i i j m hi1 hj1 hm1
          cases hc : (Nat.ble i j && Nat.ble j m && Nat.ble m n && okMx mx hi) with
          | false => rw [hc] at h; cases h
          | true =>
            rw [hc, cond_true] at h; cases h
            simp only [Bool.and_eq_true] at hc
            obtain ⟨⟨⟨c1, c2⟩, c3⟩, c4⟩ := hc
            have hmx : (vm = none ∧ m = n) ∨ ((∃ k, vm = some (.int k (m : Int))) ∧ vh ≠ none) := by
              rcases boundHi_ok (cap := 0) hm1 hm with ⟨q1, q2, q3⟩ | ⟨q1, q2⟩
              · exact .inl ⟨q2, q3⟩
              · refine .inr ⟨q2, ?_⟩
                cases mx with
                | none => exact absurd rfl q1
                | some z => cases hi with
                  | none => cases c4
                  | some u => exact hi'' (by simp) hj1
            have hb := fun w => run_bounds (P := P) (isS := false) (lo' hi1) (hi' hj1) hmx (ble_of c1) (ble_of c2) (ble_of c3) w
            refine ⟨.slice (some (if m = i then ⟨y, off, none⟩ else (⟨y, off, none⟩ : Addr).add (i * size))) (j - i) (m - i), fun w => ?_, ?_⟩
            · simp only [Instr.sliceAt, Instr.sureAddr, Sem.run_bind, Sem.run_pure, run_underlying hu, Result.andThen_ok, hb, tsz_run hs]
            · simp only [VR]
              refine ⟨y, κ, hφ, .inr ⟨by trivial, ?_⟩⟩
              rcases beq_cases m i with ⟨q, q'⟩ | ⟨q, q'⟩
              · simp [q, q']
              · simp [q, q', addr_add]
        · cases h
      · cases h
    · cases h
  · cases h
end
end Sv
end Go.Proofs.YthhacfehjgfpbaaDoor
end
section
namespace Go.Proofs.YthhacfehjgfpbaaDoor
open Go Go.RowKit
set_option linter.unusedSimpArgs false
set_option linter.unusedVariables false
namespace Sv
section
variable (P : Program) (ev : Operand → Option AV)
noncomputable def evs : List Operand → Option (List AV)
  | [] => some []
  | x :: l => match ev x with
    | some a => match evs l with
      | some r => some (a :: r)
      | none => none
    | none => none
noncomputable def evp : List (Nat × Operand) → Option (List (Nat × AV))
  | [] => some []
  | (i, x) :: l => match ev x with
    | some a => match evp l with
      | some r => some ((i, a) :: r)
      | none => none
    | none => none
noncomputable def placesA : List Field → Option (List (Nat × Nat))
  | [] => some []
  | f :: l => match tsz P f.type with
    | some n => match placesA l with
      | some r => some ((f.offset, n) :: r)
      | none => none
    | none => none
noncomputable def buildA (t : Nat) (ps : List (Nat × AV)) : Option AV := match zeroA P t with
  | some (.agg z) => match P.underlying t with
    | some (.struct fields) => match placesA P fields.toList with
      | some pl => match fillA (fun i => pl[i]?) z ps with
        | some r => some (.agg r)
        | none => none
      | none => none
    | some (.array _ e) => match tsz P e with
      | some n => match fillA (fun i => some (i * n, n)) z ps with
        | some r => some (.agg r)
        | none => none
      | none => none
    | _ => none
  | _ => none
noncomputable def nilIfaces (op : BinOp) (t : Nat) : Option AV := match P.underlying t with
  | some (.interface _) => match op with
    | .eql => some (.bool true)
    | .neq => some (.bool false)
    | _ => none
  | _ => none
noncomputable def ob (x : Option Operand) : Option (Option AV) := match x with
  | none => none
  | some x => some (ev x)
noncomputable def pPick (c a b : Operand) : Option AV := match ev c with
    | some (.bool t) => bif t then ev a else ev b
    | _ => none
noncomputable def pBin (o : Oper) (op : BinOp) (t : Nat) (x y : Operand) : Option AV := match ev x with
    | some a => match ev y with
      | some b => match toV a with
        | some _ => scal P ev o
        | none => match a with
          | .agg _ => scalS P ev o
          | .nili => match b with
            | .nili => bif Region.isConst x || Region.isConst y then nilIfaces P op t else none
            | _ => binA P op t a b
          | _ => binA P op t a b
      | none => none
    | none => none
noncomputable def pConv (o : Oper) (s d : Nat) (x : Operand) : Option AV := match ev x with
    | some (.str l) => match P.underlying s with
      | some .string => match P.underlying d with
        | some .string => some (.str l)
        | _ => none
      | _ => none
    | some _ => scal P ev o
    | none => none
noncomputable def pIface (t : Nat) (x : Operand) : Option AV := match P.underlying t with
    | some (.interface _) => none
    | some _ => match ev x with
      | some a => some (.ifc t a)
      | none => none
    | none => none
noncomputable def pFunc (fn : Fn) (first cap : Array Operand) : Option AV := match fn with
    | .func f => match evs ev first.toList with
      | some l => match evs ev cap.toList with
        | some m => some (.fn f l m)
        | none => none
      | none => none
    | _ => none
noncomputable def pExtract (x : Operand) (i : Nat) : Option AV := match ev x with
    | some (.tup l) => l[i]?
    | _ => none
noncomputable def pNil (x : Operand) : Option AV := match ev x with
    | some (.ptr b off) => some (.ptr b off)
    | _ => none
noncomputable def pFieldAddr (s : Nat) (x : Operand) (f : Nat) : Option AV := match ev x with
    | some (.ptr b off) => match P.underlying s with
      | some (.struct fields) => match fields.toList[f]? with
        | some fd => match tsz P fd.type with
          | some (_ + 1) => some (.ptr b (off + fd.offset))
          | _ => none
        | none => none
      | _ => none
    | _ => none
noncomputable def pField (s : Nat) (x : Operand) (f : Nat) : Option AV := match ev x with
    | some (.agg l) => match P.underlying s with
      | some (.struct fields) => match fields.toList[f]? with
        | some fd => partA P fd.type l fd.offset
        | none => none
      | _ => none
    | _ => none
noncomputable def pIndexAddr (t : Nat) (x i : Operand) : Option AV := match ev x with
    | some a => match ev i with
      | some ia => match natOf ia with
        | some n => match P.underlying t with
          | some (.slice e) => match tsz P e with
            | some size => match a with
              | .sl b off len _ _ => bif Nat.blt n len then some (.ptr b (off + n * size)) else none
              | _ => none
            | none => none
          | some (.array len e) => match tsz P e with
            | some size => match a with
              | .ptr b off => bif Nat.blt n len then some (.ptr b (off + n * size)) else none
              | _ => none
            | none => none
          | _ => none
        | none => none
      | none => none
    | none => none
noncomputable def pIndex (t : Nat) (x i : Operand) : Option AV := match ev x with
    | some a => match ev i with
      | some ia => match natOf ia with
        | some n => match P.underlying t with
          | some .string => match a with
            | .str l => match l[n]? with
              | some u => some (.int .u8 (.ofNat u.toNat))
              | none => none
            | _ => none
          | some (.array len e) => match a with
            | .agg l => match tsz P e with
              | some size => bif Nat.blt n len then partA P e l (n * size) else none
              | none => none
            | _ => none
          | _ => none
        | none => none
      | none => none
    | none => none
noncomputable def pSlice (t : Nat) (x : Operand) (lo hi mx : Option Operand) : Option AV := match ev x with
    | some a => sliceA P t a (ob ev lo) (ob ev hi) (ob ev mx)
    | none => none
noncomputable def pBuild (t : Nat) (parts : Array (Nat × Operand)) : Option AV := match evp ev parts.toList with
    | some ps => buildA P t ps
    | none => none
noncomputable def pAssert (x : Operand) (t : Nat) (ok : Bool) : Option AV := match ev x with
    | some (.ifc u a) => match P.underlying t with
      | some (.interface _) => none
      | some _ => bif Nat.beq u t then some (bif ok then .tup [a, .bool true] else a) else bif ok then (match zeroA P t with | some z => some (.tup [z, .bool false]) | none => none) else none
      | none => none
    | some .nili => match P.underlying t with
      | some (.interface _) => none
      | some _ => bif ok then (match zeroA P t with | some z => some (.tup [z, .bool false]) | none => none) else none
      | none => none
    | _ => none
noncomputable def pCall (o : Oper) (c : Call) : Option AV := match c.callee with
    | .builtin .len => match c.args.toList with
      | [x] => match c.argTypes.toList with
        | [t] => match ev x with
          | some (.str l) => match P.underlying t with
            | some .string => some (.int .i64 (.ofNat l.length))
            | _ => none
          | some (.sl _ _ len _ _) => match P.underlying t with
            | some (.slice _) => some (.int .i64 (.ofNat len))
            | _ => none
          | some .nils => match P.underlying t with
            | some (.slice _) => some (.int .i64 (.ofNat 0))
            | _ => none
          | some .sle => match P.underlying t with
            | some (.slice _) => some (.int .i64 (.ofNat 0))
            | _ => none
          | some .nilm => match P.underlying t with
            | some (.map _ _) => some (.int .i64 (.ofNat 0))
            | _ => none
          | _ => none
        | _ => none
      | _ => none
    | .builtin .cap => match c.args.toList with
      | [x] => match c.argTypes.toList with
        | [t] => match ev x with
          | some (.sl _ _ _ cap false) => match P.underlying t with
            | some (.slice _) => some (.int .i64 (.ofNat cap))
            | _ => none
          | some .nils => match P.underlying t with
            | some (.slice _) => some (.int .i64 (.ofNat 0))
            | _ => none
          | _ => none
        | _ => none
      | _ => none
    | .builtin .min => scal P ev o
    | .builtin .max => scal P ev o
    | .builtin .real => scal P ev o
    | .builtin .imag => scal P ev o
    | .builtin .complex => scal P ev o
    | .value _ => externA P ev o
    | _ => none
noncomputable def pureA (o : Oper) : Option AV := match o.op with
  | .move x => ev x
  | .assign x => ev x
  | .pick c a b => pPick ev c a b
  | .binOp op t x y _ => pBin P ev o op t x y
  | .unOp _ _ _ => scal P ev o
  | .convert s d x => pConv P ev o s d x
  | .makeInterface t x => pIface P ev t x
  | .makeFunc fn first cap => pFunc ev fn first cap
  | .extract x i => pExtract ev x i
  | .nilCheck x => pNil ev x
  | .fieldAddr s x f => pFieldAddr P ev s x f
  | .field s x f => pField P ev s x f
  | .indexAddr t x i => pIndexAddr P ev t x i
  | .index t x i => pIndex P ev t x i
  | .slice t x lo hi mx => pSlice P ev t x lo hi mx
  | .build t parts => pBuild P ev t parts
  | .typeAssert x _ t ok => pAssert P ev x t ok
  | .call c => pCall P ev o c
  | _ => none
end
section
variable {P : Program} {ev : Operand → Option AV} {φ : Phi} {ρ : Operand → Value}
theorem evs_ok (hev : EVR φ ev ρ) : ∀ {l : List Operand} {r : List AV}, evs ev l = some r → VRl φ r (l.map ρ)
  | [], _, h => by cases h; exact .nil
  | x :: l, _, h => by
    unfold evs at h
    split at h
    · rename_i a ha
      split at h
      · rename_i r hr; cases h; exact .cons (hev _ _ ha) (evs_ok hev hr)
      · cases h
    · cases h
theorem evp_ok (hev : EVR φ ev ρ) : ∀ {l : List (Nat × Operand)} {r : List (Nat × AV)}, evp ev l = some r → NR φ r (l.map fun (i, x) => (i, ρ x))
  | [], _, h => by cases h; simp [NR]
  | (i, x) :: l, _, h => by
    unfold evp at h
    split at h
    · rename_i a ha
      split at h
      · rename_i r hr; cases h; simp only [NR, List.map_cons]; exact ⟨_, _, rfl, hev _ _ ha, evp_ok hev hr⟩
      · cases h
    · cases h
theorem placesA_run (w : World) : ∀ {l : List Field} {r : List (Nat × Nat)}, placesA P l = some r → (l.mapM (m := Sem) fun f => do pure (f.offset, ← sizeOf f.type)).run P w = .ok r w
  | [], _, h => by cases h; simp [go_sem]
  | f :: l, _, h => by
    unfold placesA at h
    split at h
    · rename_i n hn
      split at h
      · rename_i r hr
        cases h
        have := placesA_run w hr
        simp only [List.mapM_cons, Sem.run_bind, Sem.run_pure, tsz_run hn, Result.andThen_ok, this]
      · cases h
    · cases h
theorem buildA_ok {t : Nat} {ps : List (Nat × AV)} {qs : Array (Nat × Value)} {a : AV} (h : buildA P t ps = some a) (hp : NR φ ps qs.toList) : ∃ v, (∀ w, (Instr.build t qs).run P w = .ok v w) ∧ VR φ a v := by
  unfold buildA at h
  split at h
  · rename_i z hz
    obtain ⟨zv, hzv, hzr⟩ := zeroA_run (φ := φ) hz
    simp only [VR] at hzr
    obtain ⟨zs, hzs, rfl⟩ := hzr
    split at h
    · rename_i fields hu
      split at h
      · rename_i pl hpl
        split at h
        · rename_i r hr
          cases h
          obtain ⟨rs, h1, h2⟩ := fillA_run _ ps qs.toList z zs.toArray r hr hp (by simpa using hzs)
          refine ⟨.agg rs, fun w => ?_, by simp only [VR]; exact ⟨rs.toList, h2, by simp⟩⟩
          have hm : (fields.mapM (m := Sem) fun f => do pure (f.offset, ← sizeOf f.type)).run P w = .ok pl.toArray w := by
            rw [Array.mapM_eq_mapM_toList]
            simp only [Sem.run_map, placesA_run w hpl, Result.andThen_ok]
          have hf : (fun i : Nat => pl.toArray[i]?) = fun i => pl[i]? := by funext i; simp
          simp only [Instr.build, Sem.run_bind, hzv, Result.andThen_ok, run_underlying hu, hm, Value.cells, hf, h1, Sem.run_pure]
        · cases h
      · cases h
    · rename_i n e hu
      split at h
      · rename_i size hs
        split at h
        · rename_i r hr
          cases h
          obtain ⟨rs, h1, h2⟩ := fillA_run _ ps qs.toList z zs.toArray r hr hp (by simpa using hzs)
          refine ⟨.agg rs, fun w => ?_, by simp only [VR]; exact ⟨rs.toList, h2, by simp⟩⟩
          simp only [Instr.build, Sem.run_bind, hzv, Result.andThen_ok, run_underlying hu, tsz_run hs, Value.cells, h1, Sem.run_pure]
        · cases h
      · cases h
    · cases h
  · cases h
theorem ob_ok (hev : EVR φ ev ρ) (x : Option Operand) : BR φ (ob ev x) (x.map ρ) := by
  cases x with
  | none => simp [ob, BR]
  | some x =>
    unfold ob
    cases h : ev x with
    | none => simp [h, BR]
    | some a => simp only [h, BR, Option.map_some]; exact ⟨_, rfl, hev _ _ h⟩
theorem run_v {s : Sem Value} {w : World} {v : Value} (h : s.run P w = .ok v w) : ((do pure (.value (← s)) : Sem Next)).run P w = .ok (.value v) w := by
  simp only [Sem.run_bind, h, Result.andThen_ok, Sem.run_pure]
theorem eqGuard_not {op : BinOp} {t : Nat} {x y : Operand} {a b : Value} (w : World) (h : ¬ (a = .nilIface ∧ b = .nilIface)) (h' : ∀ c d, ¬ (a = .agg c ∧ b = .agg d)) : (eqGuard op t x y a b).run P w = .ok () w := by
  unfold eqGuard
  by_cases ho : (!(match op with | .eql | .neq => true | _ => false)) = true
  · cases op <;> first | (simp at ho; done) | rfl
  · cases op <;> first | (simp at ho; done) | skip
    all_goals
      cases a <;> cases b <;> first | rfl | (exact absurd ⟨rfl, rfl⟩ h) | (exact absurd ⟨rfl, rfl⟩ (h' _ _))
theorem binA_ok {op : BinOp} {t : Nat} {a b r : AV} {x y : Value} (h : binA P op t a b = some r) (ht : toV a = none) (hx : VR φ a x) (hy : VR φ b y) (xo yo : Operand) :
    ∃ v, (∀ w, ((do eqGuard op t xo yo x y; binOp op t x y) : Sem Value).run P w = .ok v w) ∧ VR φ r v := by
  unfold binA at h
  split at h
  case h_8 =>
    have nilcase : ∀ q, binA.nilEq P t a b = some q → ¬ (x = .nilIface ∧ y = .nilIface) ∧ (∀ c d, ¬ (x = .agg c ∧ y = .agg d)) ∧ (∀ r : Bool, (∀ w, (Op.equal t x y).run P w = .ok r w) →
        (∀ w, (binOp .eql t x y).run P w = .ok (.bool r) w) ∧ (∀ w, (binOp .neq t x y).run P w = .ok (.bool (!r)) w)) := by
      intro q hq
      unfold binA.nilEq at hq
      split at hq <;> first | cases hq | skip
      all_goals
        simp only [VR] at hx hy
        first
          | (obtain ⟨x1, κ1, e1, rfl⟩ := hx; subst hy; refine ⟨by simp, by simp, fun r hr => ⟨fun w => ?_, fun w => ?_⟩⟩ <;> simp [binOp, hr, go_sem]; done)
          | (obtain ⟨x1, κ1, e1, rfl⟩ := hy; subst hx; refine ⟨by simp, by simp, fun r hr => ⟨fun w => ?_, fun w => ?_⟩⟩ <;> simp [binOp, hr, go_sem]; done)
          | (obtain ⟨x1, κ1, e1, ⟨_, _, rfl⟩ | ⟨_, rfl⟩⟩ := hx <;> subst hy <;> refine ⟨by simp, by simp, fun r hr => ⟨fun w => ?_, fun w => ?_⟩⟩ <;> simp [binOp, hr, go_sem]; done)
          | (obtain ⟨x1, κ1, e1, ⟨_, _, rfl⟩ | ⟨_, rfl⟩⟩ := hy <;> subst hx <;> refine ⟨by simp, by simp, fun r hr => ⟨fun w => ?_, fun w => ?_⟩⟩ <;> simp [binOp, hr, go_sem]; done)
          | (obtain ⟨x1, e1, rfl⟩ := hx; subst hy; refine ⟨by simp, by simp, fun r hr => ⟨fun w => ?_, fun w => ?_⟩⟩ <;> simp [binOp, hr, go_sem]; done)
          | (obtain ⟨x1, e1, rfl⟩ := hy; subst hx; refine ⟨by simp, by simp, fun r hr => ⟨fun w => ?_, fun w => ?_⟩⟩ <;> simp [binOp, hr, go_sem]; done)
          | (obtain ⟨x1, x2, rfl⟩ := hx; subst hy; refine ⟨by simp, by simp, fun r hr => ⟨fun w => ?_, fun w => ?_⟩⟩ <;> simp [binOp, hr, go_sem]; done)
          | (obtain ⟨x1, x2, rfl⟩ := hy; subst hx; refine ⟨by simp, by simp, fun r hr => ⟨fun w => ?_, fun w => ?_⟩⟩ <;> simp [binOp, hr, go_sem]; done)
          | (obtain ⟨x1, x2, e1, e2, rfl⟩ := hx; subst hy; refine ⟨by simp, by simp, fun r hr => ⟨fun w => ?_, fun w => ?_⟩⟩ <;> simp [binOp, hr, go_sem]; done)
          | (subst hx; subst hy; refine ⟨by simp, by simp, fun r hr => ⟨fun w => ?_, fun w => ?_⟩⟩ <;> simp [binOp, hr, go_sem]; done)
    split at h
    · obtain ⟨g1, g2, g3⟩ := nilcase _ h
      obtain ⟨q, rfl, hq⟩ := nilEq_ok h hx hy
      exact ⟨.bool q, fun w => by simp only [Sem.run_bind, eqGuard_not w g1 g2, Result.andThen_ok, (g3 q hq).1 w], by simp [VR]⟩
    · split at h
      · rename_i r' hr'
        cases h
        obtain ⟨g1, g2, g3⟩ := nilcase _ hr'
        obtain ⟨q, hq0, hq⟩ := nilEq_ok hr' hx hy
        cases hq0
        exact ⟨.bool (!r'), fun w => by simp only [Sem.run_bind, eqGuard_not w g1 g2, Result.andThen_ok, (g3 r' hq).2 w], by simp [VR]⟩
      · cases h
    · cases h
  all_goals
    simp only [VR] at hx hy
    subst hx; subst hy
  case h_7 l m =>
    cases hb : Nat.ble (l.length + m.length) 1000000 with
    | false => rw [hb] at h; cases h
    | true =>
      rw [hb, cond_true] at h; cases h
      refine ⟨.string ⟨(l ++ m).toArray⟩, fun w => ?_, VR.ofStr _⟩
      have h1 : ¬ (((l.length + m.length : Nat) : Int) > IntKind.i64.max) := by
        have : IntKind.i64.max = 9223372036854775807 := by decide
        have := ble_of hb
        omega
      have h2 : (⟨l.toArray⟩ : ByteArray) ++ ⟨m.toArray⟩ = ⟨(l ++ m).toArray⟩ := by
        apply ByteArray.ext; simp [ByteArray.data_append]
      have hg := eqGuard_not (P := P) (op := .add) (t := t) (x := xo) (y := yo) (a := .string ⟨l.toArray⟩) (b := .string ⟨m.toArray⟩) w (by simp) (by simp)
      simp only [Sem.run_bind, hg, Result.andThen_ok, binOp, Op.stringOp, S_size, h2]
      rw [if_neg h1]; rfl
  all_goals
    rename_i p q
    cases h
    refine ⟨_, fun w => ?_, VR.ofBool _⟩
    have hg := fun o => eqGuard_not (P := P) (op := o) (t := t) (x := xo) (y := yo) (a := .string ⟨p.toArray⟩) (b := .string ⟨q.toArray⟩) w (by simp) (by simp)
    have he : (p == q) = strEq p q := by rw [strEq_iff, Bool.eq_iff_iff]; simp
    simp only [Sem.run_bind, hg, Result.andThen_ok, binOp, Op.stringOp, S_toList, he, Sem.run_pure]
end
end Sv
end Go.Proofs.YthhacfehjgfpbaaDoor
end
section
namespace Go.Proofs.YthhacfehjgfpbaaDoor
open Go Go.RowKit
set_option linter.unusedSimpArgs false
set_option linter.unusedVariables false
namespace Sv
section
variable {P : Program} {ev : Operand → Option AV} {φ : Phi} {ρ : Operand → Value}
theorem pureA_ok (hev : EVR φ ev ρ) {o : Oper} {a : AV} (h : pureA P ev o = some a) : PureOK P φ ρ o a := by
  obtain ⟨dst, op, type, pos, after, guard⟩ := o
  cases op <;> simp only [pureA, pPick, pBin, pConv, pIface, pFunc, pExtract, pNil, pFieldAddr, pField, pIndexAddr, pIndex, pSlice, pBuild, pAssert, pCall, reduceCtorEq] at h
  case move x => exact ⟨_, fun w => rfl, hev _ _ h⟩
  case assign x => exact ⟨_, fun w => rfl, hev _ _ h⟩
  case pick c x y =>
    split at h
    · rename_i t ht
      have hc := hev _ _ ht
      simp only [VR] at hc
      cases t
      · exact ⟨ρ y, fun w => by simp [execOp, hc, asBool, go_sem], hev _ _ h⟩
      · exact ⟨ρ x, fun w => by simp [execOp, hc, asBool, go_sem], hev _ _ h⟩
    · cases h
  case binOp op t x y ty =>
    split at h
    · rename_i a1 ha
      split at h
      · rename_i b1 hb
        split at h
        · exact scal_ok hev h
        · rename_i hn
          split at h
          · exact scalS_ok hev h
          · split at h
            · cases hc : (Region.isConst x || Region.isConst y) with
              | false => rw [hc] at h; cases h
              | true =>
                rw [hc, cond_true] at h
                have hx := hev _ _ ha
                have hy := hev _ _ hb
                simp only [VR] at hx hy
                unfold nilIfaces at h
                split at h
                · rename_i ms hu
                  have hg : ∀ w, (eqGuard op t x y .nilIface .nilIface).run P w = .ok () w := by
                    intro w
                    unfold eqGuard
                    cases op <;> first
                      | rfl
                      | (simp only [Bool.not_true, Bool.false_eq_true, if_false]; cases x <;> cases y <;> first | rfl | (simp [Region.isConst] at hc; done))
                  split at h
                  · cases h
                    refine ⟨.bool true, fun w => ?_, by simp [VR]⟩
                    simp only [execOp]
                    refine run_v ?_
                    simp only [hx, hy, Sem.run_bind, hg, Result.andThen_ok, binOp, Op.equal, Op.maxDepth]
                    unfold Op.equalIn
                    simp [run_underlying hu, go_sem]
                  · cases h
                    refine ⟨.bool false, fun w => ?_, by simp [VR]⟩
                    simp only [execOp]
                    refine run_v ?_
                    simp only [hx, hy, Sem.run_bind, hg, Result.andThen_ok, binOp, Op.equal, Op.maxDepth]
                    unfold Op.equalIn
                    simp [run_underlying hu, go_sem]
                  · cases h
                · cases h
            · obtain ⟨v, hv, hr⟩ := binA_ok h hn (hev _ _ ha) (hev _ _ hb) x y
              exact ⟨v, fun w => by simp only [execOp]; exact run_v (hv w), hr⟩
          · obtain ⟨v, hv, hr⟩ := binA_ok h hn (hev _ _ ha) (hev _ _ hb) x y
            exact ⟨v, fun w => by simp only [execOp]; exact run_v (hv w), hr⟩
      · cases h
    · cases h
  case unOp op t x => exact scal_ok hev h
  case convert s d x =>
    split at h
    · rename_i l hl
      split at h
      · rename_i hu1
        split at h
        · rename_i hu
          cases h
          have hx := hev _ _ hl
          simp only [VR] at hx
          refine ⟨.string ⟨l.toArray⟩, fun w => ?_, VR.ofStr _⟩
          simp [execOp, convert, hx, run_underlying hu1, run_underlying hu, go_sem]
        · cases h
      · cases h
    · exact scal_ok hev h
    · cases h
  case makeInterface t x =>
    split at h
    · cases h
    · rename_i d hd hu
      split at h
      · rename_i a1 ha
        cases h
        refine ⟨.iface t (ρ x), fun w => ?_, by simp only [VR]; exact ⟨_, hev _ _ ha, rfl⟩⟩
        simp only [execOp]
        refine run_v ?_
        cases d <;> first
          | (simp [Instr.makeInterface, run_underlying hu, go_sem]; done)
          | exact (hd _ rfl).elim
      · cases h
    · cases h
  case makeFunc fn first cap =>
    split at h
    · rename_i f
      split at h
      · rename_i l hl
        split at h
        · rename_i m hm
          cases h
          have h1 := evs_ok hev hl
          have h2 := evs_ok hev hm
          refine ⟨.func (.func f) (first.map ρ) (cap.map ρ), fun w => rfl, ?_⟩
          simp only [VR]
          refine ⟨_, _, h1, h2, ?_⟩
          congr 1 <;> (apply Array.ext'; simp)
        · cases h
      · cases h
    · cases h
  case extract x i =>
    split at h
    · rename_i l hl
      have hx := hev _ _ hl
      simp only [VR] at hx
      obtain ⟨vs, hvs, hx⟩ := hx
      obtain ⟨v, hv, hr⟩ := hvs.get h
      exact ⟨v, fun w => by simp [execOp, Instr.extract, hx, hv, go_sem], hr⟩
    · cases h
  case nilCheck x =>
    split at h
    · rename_i b off hl
      cases h
      have hx := hev _ _ hl
      have hx' := hx
      simp only [VR] at hx
      obtain ⟨y, κ, _, hx⟩ := hx
      exact ⟨ρ x, fun w => by simp [execOp, hx, go_sem], hx'⟩
    · cases h
  case fieldAddr s x f =>
    split at h
    · rename_i b off hl
      split at h
      · rename_i fields hu
        split at h
        · rename_i fd hf
          split at h
          · rename_i n hn
            cases h
            have hx := hev _ _ hl
            simp only [VR] at hx
            obtain ⟨y, κ, hφ, hx⟩ := hx
            refine ⟨.pointer (some ⟨y, off + fd.offset, none⟩), fun w => ?_, by simp only [VR]; exact ⟨y, κ, hφ, rfl⟩⟩
            have hf' : fields[f]? = some fd := by simpa using hf
            simp [execOp, Instr.fieldAt, Instr.sureAddr, fieldPlace, hx, run_underlying hu, hf', tsz_run hn, addr_add, go_sem]
          · cases h
        · cases h
      · cases h
    · cases h
  case field s x f =>
    split at h
    · rename_i l hl
      split at h
      · rename_i fields hu
        split at h
        · rename_i fd hf
          have hx := hev _ _ hl
          simp only [VR] at hx
          obtain ⟨vs, hvs, hx⟩ := hx
          obtain ⟨v, hv, hr⟩ := partA_run h hvs
          have hf' : fields[f]? = some fd := by simpa using hf
          refine ⟨v, fun w => ?_, hr⟩
          simp only [execOp]
          refine run_v ?_
          simp only [Instr.field, Sem.run_bind, run_underlying hu, Result.andThen_ok, hf', hx, asAgg, Sem.run_pure, hv]
        · cases h
      · cases h
    · cases h
  case indexAddr t x i =>
    split at h
    · rename_i a1 ha
      split at h
      · rename_i ia hia
        split at h
        · rename_i n hn
          obtain ⟨kd, hi⟩ := natOf_VR hn (hev _ _ hia)
          have hx := hev _ _ ha
          split at h
          · rename_i e hu
            split at h
            · rename_i size hs
              split at h
              · rename_i b off len cap op
                cases hb : Nat.blt n len with
                | false => rw [hb] at h; cases h
                | true =>
                  rw [hb, cond_true] at h; cases h
                  have hlt : n < len := by simpa [Nat.blt_eq] using hb
                  simp only [VR] at hx
                  obtain ⟨y, κ, hφ, hx⟩ := hx
                  have hx' : ∃ c, ρ x = .slice (some ⟨y, off, none⟩) len c := by
                    rcases hx with ⟨_, _, hx⟩ | ⟨_, hx⟩ <;> exact ⟨_, hx⟩
                  obtain ⟨c, hx'⟩ := hx'
                  refine ⟨.pointer (some ⟨y, off + n * size, none⟩), fun w => ?_, by simp only [VR]; exact ⟨y, κ, hφ, rfl⟩⟩
                  have h1 : (0 : Int) ≤ (n : Int) ∧ (n : Int) < (len : Int) := by omega
                  simp [execOp, Instr.indexAt, asIntOf, hx', hi, run_underlying hu, tsz_run hs, h1, hlt, addr_add, go_sem]
              · cases h
            · cases h
          · rename_i len e hu
            split at h
            · rename_i size hs
              split at h
              · rename_i b off
                cases hb : Nat.blt n len with
                | false => rw [hb] at h; cases h
                | true =>
                  rw [hb, cond_true] at h; cases h
                  have hlt : n < len := by simpa [Nat.blt_eq] using hb
                  simp only [VR] at hx
                  obtain ⟨y, κ, hφ, hx⟩ := hx
                  refine ⟨.pointer (some ⟨y, off + n * size, none⟩), fun w => ?_, by simp only [VR]; exact ⟨y, κ, hφ, rfl⟩⟩
                  have h1 : (0 : Int) ≤ (n : Int) ∧ (n : Int) < (len : Int) := by omega
                  simp [execOp, Instr.indexAt, Instr.sureAddr, asIntOf, hx, hi, run_underlying hu, tsz_run hs, h1, hlt, addr_add, go_sem]
              · cases h
            · cases h
          · cases h
        · cases h
      · cases h
    · cases h
  case index t x i =>
    split at h
    · rename_i a1 ha
      split at h
      · rename_i ia hia
        split at h
        · rename_i n hn
          obtain ⟨kd, hi⟩ := natOf_VR hn (hev _ _ hia)
          have hx := hev _ _ ha
          split at h
          · rename_i hu
            split at h
            · rename_i l
              split at h
              · rename_i u hlu
                cases h
                simp only [VR] at hx
                refine ⟨.int .u8 (u.toNat : Int), fun w => ?_, by simp [VR]⟩
                have hlt : n < l.length := (List.getElem?_eq_some_iff.1 hlu).1
                have hg : (⟨l.toArray⟩ : ByteArray)[n]? = some u := by
                  have hs : n < (⟨l.toArray⟩ : ByteArray).size := by rw [S_size]; exact hlt
                  rw [getElem?_pos _ n hs]
                  have : ((⟨l.toArray⟩ : ByteArray)[n]'hs) = l[n] := rfl
                  rw [this]; rw [List.getElem?_eq_getElem hlt] at hlu; exact hlu
                simp only [execOp]
                refine run_v ?_
                simp [Instr.index, asIntOf, hx, hi, run_underlying hu, hg, go_sem]
              · cases h
            · cases h
          · rename_i len e hu
            split at h
            · rename_i l
              split at h
              · rename_i size hs
                cases hb : Nat.blt n len with
                | false => rw [hb] at h; cases h
                | true =>
                  rw [hb, cond_true] at h
                  have hlt : n < len := by simpa [Nat.blt_eq] using hb
                  simp only [VR] at hx
                  obtain ⟨vs, hvs, hx⟩ := hx
                  obtain ⟨v, hv, hr⟩ := partA_run h hvs
                  refine ⟨v, fun w => ?_, hr⟩
                  have h1 : (0 : Int) ≤ (n : Int) ∧ (n : Int) < (len : Int) := by omega
                  simp only [execOp]
                  refine run_v ?_
                  simp only [Instr.index, asIntOf, hx, hi, Sem.run_bind, Sem.run_pure, Result.andThen_ok, run_underlying hu]
                  rw [if_pos h1]
                  simp only [Sem.run_bind, tsz_run hs, Result.andThen_ok, Int.toNat_natCast, hv]
              · cases h
            · cases h
          · cases h
        · cases h
      · cases h
    · cases h
  case slice t x lo hi mx =>
    split at h
    · rename_i a1 ha
      obtain ⟨v, hv, hr⟩ := sliceA_ok h (hev _ _ ha) (ob_ok hev lo) (ob_ok hev hi) (ob_ok hev mx)
      exact ⟨v, fun w => by simp only [execOp]; exact run_v (hv w), hr⟩
    · cases h
  case build t parts =>
    split at h
    · rename_i ps hps
      have hp := evp_ok hev hps
      obtain ⟨v, hv, hr⟩ := buildA_ok (qs := parts.map fun (i, x) => (i, ρ x)) h (by simpa using hp)
      exact ⟨v, fun w => by simp only [execOp]; exact run_v (hv w), hr⟩
    · cases h
  case typeAssert x xt t ok =>
    split at h
    · rename_i u a1 hl
      have hx := hev _ _ hl
      simp only [VR] at hx
      obtain ⟨y, hy, hx⟩ := hx
      split at h
      · cases h
      · rename_i d hd hu
        have hni : ∀ ms, d ≠ .interface ms := fun ms e => hd ms e
        rcases beq_cases u t with ⟨q, rfl⟩ | ⟨q, q'⟩
        · rw [q, cond_true] at h; cases h
          cases ok
          · refine ⟨y, fun w => ?_, hy⟩
            simp only [execOp]
            refine run_v ?_
            cases d <;> first
              | (simp [Instr.typeAssert, hx, run_underlying hu, go_sem]; done)
              | exact (hni _ rfl).elim
          · refine ⟨.tuple #[y, .bool true], fun w => ?_, by simp only [VR, cond_true]; exact ⟨[y, .bool true], .cons hy (.cons (by simp [VR]) .nil), rfl⟩⟩
            simp only [execOp]
            refine run_v ?_
            cases d <;> first
              | (simp [Instr.typeAssert, hx, run_underlying hu, go_sem]; done)
              | exact (hni _ rfl).elim
        · rw [q, cond_false] at h
          cases ok
          · cases h
          · rw [cond_true] at h
            split at h
            · rename_i z hz
              cases h
              obtain ⟨zv, hzv, hzr⟩ := zeroA_run (φ := φ) hz
              refine ⟨.tuple #[zv, .bool false], fun w => ?_, by simp only [VR]; exact ⟨[zv, .bool false], .cons hzr (.cons (by simp [VR]) .nil), rfl⟩⟩
              simp only [execOp]
              refine run_v ?_
              cases d <;> first
                | (simp [Instr.typeAssert, hx, run_underlying hu, q', hzv, go_sem]; done)
                | exact (hni _ rfl).elim
            · cases h
      · cases h
    · rename_i hl
      have hx := hev _ _ hl
      simp only [VR] at hx
      split at h
      · cases h
      · rename_i d hd hu
        cases ok
        · cases h
        · rw [cond_true] at h
          split at h
          · rename_i z hz
            cases h
            obtain ⟨zv, hzv, hzr⟩ := zeroA_run (φ := φ) hz
            refine ⟨.tuple #[zv, .bool false], fun w => ?_, by simp only [VR]; exact ⟨[zv, .bool false], .cons hzr (.cons (by simp [VR]) .nil), rfl⟩⟩
            simp only [execOp]
            refine run_v ?_
            cases d <;> first
              | (simp only [Instr.typeAssert, hx, Sem.run_bind, run_underlying hu, Result.andThen_ok, if_true, hzv, Sem.run_pure]; done)
              | exact (hd _ rfl).elim
          · cases h
      · cases h
    · cases h
  case call c =>
    obtain ⟨callee, args, argTypes⟩ := c
    simp only at h
    have lens : ∀ (x : Operand) (t : Nat), args.toList = [x] → argTypes.toList = [t] → args = #[x] ∧ argTypes = #[t] := fun x t h1 h2 => ⟨by apply Array.ext'; simpa using h1, by apply Array.ext'; simpa using h2⟩
    split at h
    · split at h
      · rename_i x hxs
        split at h
        · rename_i t hts
          obtain ⟨rfl, rfl⟩ := lens x t hxs hts
          split at h <;> first | cases h | skip
          · rename_i l hl
            split at h <;> first | cases h | skip
            rename_i hu
            have hx := hev _ _ hl
            simp only [VR] at hx
            exact ⟨.int .i64 (l.length : Int), fun w => by simp [execOp, resolve, invoke, builtin, Builtin.len_, hx, run_underlying hu, goInt, S_size, go_sem], by simp [VR]⟩
          · rename_i b off len cap op hl
            split at h <;> first | cases h | skip
            rename_i e hu
            have hx := hev _ _ hl
            simp only [VR] at hx
            obtain ⟨y, κ, hφ, hx⟩ := hx
            have hx' : ∃ c, ρ x = .slice (some ⟨y, off, none⟩) len c := by
              rcases hx with ⟨_, _, hx⟩ | ⟨_, hx⟩ <;> exact ⟨_, hx⟩
            obtain ⟨c, hx'⟩ := hx'
            exact ⟨.int .i64 (len : Int), fun w => by simp [execOp, resolve, invoke, builtin, Builtin.len_, hx', run_underlying hu, goInt, go_sem], by simp [VR]⟩
          · rename_i hl
            split at h <;> first | cases h | skip
            rename_i e hu
            have hx := hev _ _ hl
            simp only [VR] at hx
            exact ⟨.int .i64 ((0 : Nat) : Int), fun w => by simp [execOp, resolve, invoke, builtin, Builtin.len_, hx, run_underlying hu, goInt, go_sem], by simp [VR]⟩
          · rename_i hl
            split at h <;> first | cases h | skip
            rename_i e hu
            have hx := hev _ _ hl
            simp only [VR] at hx
            obtain ⟨p, c, hx⟩ := hx
            exact ⟨.int .i64 ((0 : Nat) : Int), fun w => by simp [execOp, resolve, invoke, builtin, Builtin.len_, hx, run_underlying hu, goInt, go_sem], by simp [VR]⟩
          · rename_i hl
            split at h <;> first | cases h | skip
            rename_i k e hu
            have hx := hev _ _ hl
            simp only [VR] at hx
            exact ⟨.int .i64 ((0 : Nat) : Int), fun w => by simp [execOp, resolve, invoke, builtin, Builtin.len_, hx, run_underlying hu, goInt, go_sem], by simp [VR]⟩
        · cases h
      · cases h
    · split at h
      · rename_i x hxs
        split at h
        · rename_i t hts
          obtain ⟨rfl, rfl⟩ := lens x t hxs hts
          split at h <;> first | cases h | skip
          · rename_i b off len cap hl
            split at h <;> first | cases h | skip
            rename_i e hu
            have hx := hev _ _ hl
            simp only [VR] at hx
            obtain ⟨y, κ, hφ, ⟨q, _⟩ | ⟨_, hx⟩⟩ := hx
            · cases q
            exact ⟨.int .i64 (cap : Int), fun w => by simp [execOp, resolve, invoke, builtin, Builtin.cap_, hx, run_underlying hu, goInt, go_sem], by simp [VR]⟩
          · rename_i hl
            split at h <;> first | cases h | skip
            rename_i e hu
            have hx := hev _ _ hl
            simp only [VR] at hx
            exact ⟨.int .i64 ((0 : Nat) : Int), fun w => by simp [execOp, resolve, invoke, builtin, Builtin.cap_, hx, run_underlying hu, goInt, go_sem], by simp [VR]⟩
        · cases h
      · cases h
    all_goals first | exact scal_ok hev h | exact externA_ok hev h | cases h
end
end Sv
end Go.Proofs.YthhacfehjgfpbaaDoor
end
section
namespace Go.Proofs.YthhacfehjgfpbaaDoor
open Go Go.RowKit
set_option linter.unusedSimpArgs false
set_option linter.unusedVariables false
namespace Sv
inductive AO where
  | row (c : List AV) (e : Nat)
  | grow (es : List AV) (e sz : Nat)
  | map (es : List (AV × AV × Nat)) (clk : Nat)
  | siter (s : List UInt8) (p : Nat)
abbrev AH := List (Nat × AO)
noncomputable def getH (b : Nat) : AH → Option AO
  | [] => none
  | (k, o) :: r => bif Nat.beq k b then some o else getH b r
noncomputable def setH (b : Nat) (o : AO) : AH → AH
  | [] => [(b, o)]
  | (k, x) :: r => bif Nat.beq k b then (k, o) :: r else (k, x) :: setH b o r
noncomputable def delH (b : Nat) : AH → AH
  | [] => []
  | (k, x) :: r => bif Nat.beq k b then delH b r else (k, x) :: delH b r
theorem get_set_same (b : Nat) (o : AO) : ∀ h : AH, getH b (setH b o h) = some o
  | [] => by simp only [setH, getH, Nat.beq_refl, cond_true]
  | (k, x) :: r => by
    rcases beq_cases k b with ⟨e, _⟩ | ⟨e, _⟩ <;> simp only [setH, e, cond_true, cond_false, getH]
    exact get_set_same b o r
theorem get_set_other {b c : Nat} (o : AO) (hne : c ≠ b) : ∀ h : AH, getH c (setH b o h) = getH c h
  | [] => by simp only [setH, getH, beq_false (Ne.symm hne), cond_false]
  | (k, x) :: r => by
    rcases beq_cases k b with ⟨e, h1⟩ | ⟨e, _⟩
    · subst h1; simp only [setH, Nat.beq_refl, cond_true, getH, beq_false (Ne.symm hne), cond_false]
    · simp only [setH, e, cond_false, getH, get_set_other o hne r]
theorem get_del_same (b : Nat) : ∀ h : AH, getH b (delH b h) = none
  | [] => rfl
  | (k, x) :: r => by
    rcases beq_cases k b with ⟨e, _⟩ | ⟨e, _⟩ <;> simp only [delH, e, cond_true, cond_false, getH]
    · exact get_del_same b r
    · exact get_del_same b r
theorem get_del_other {b c : Nat} (hne : c ≠ b) : ∀ h : AH, getH c (delH b h) = getH c h
  | [] => rfl
  | (k, x) :: r => by
    rcases beq_cases k b with ⟨e, h1⟩ | ⟨e, _⟩
    · subst h1; simp only [delH, Nat.beq_refl, cond_true, getH, beq_false (Ne.symm hne), cond_false, get_del_other hne r]
    · simp only [delH, e, cond_false, getH, get_del_other hne r]
theorem get_del {b c : Nat} {o : AO} {h : AH} (k : getH c (delH b h) = some o) : c ≠ b ∧ getH c h = some o := by
  by_cases e : c = b
  · subst e; rw [get_del_same] at k; cases k
  · rw [get_del_other e] at k; exact ⟨e, k⟩
def MR (φ : Phi) : List (AV × AV × Nat) → List MapEntry → Prop
  | [], l => l = []
  | (k, v, n) :: es, l => ∃ e l', l = e :: l' ∧ VR φ k e.key ∧ VR φ v e.val ∧ e.born = n ∧ MR φ es l'
theorem MR.imp {φ φ' : Phi} : ∀ {es : List (AV × AV × Nat)} {l : List MapEntry}, (∀ a v n, (a, v, n) ∈ es → (∀ u, VR φ a u → VR φ' a u) ∧ (∀ u, VR φ v u → VR φ' v u)) → MR φ es l → MR φ' es l
  | [], _, _, k => k
  | (a, v, n) :: es, _, h, k => by
    simp only [MR] at k ⊢
    obtain ⟨e, l', r, x, y, c, d⟩ := k
    have h0 := h a v n (by simp)
    exact ⟨e, l', r, h0.1 _ x, h0.2 _ y, c, MR.imp (fun a v n hm => h a v n (by simp [hm])) d⟩
theorem MR.mono {φ φ' : Phi} (h : φ.le φ') {es : List (AV × AV × Nat)} {l : List MapEntry} (k : MR φ es l) : MR φ' es l := MR.imp (fun _ _ _ _ => ⟨fun _ => VR.mono h, fun _ => VR.mono h⟩) k
structure Bas where
  w : World
  old : Nat → Prop
  lt : ∀ k, old k → k < w.heap.size
structure Bel (B : Bas) (w : World) : Prop where
  os : w.os = B.w.os
  tape : w.tape = B.w.tape
  output : w.output = B.w.output
  size : B.w.heap.size ≤ w.heap.size
  block : ∀ k, B.old k → w.heap[k]? = B.w.heap[k]?
theorem Bel.lt {B : Bas} {w : World} (h : Bel B w) {k : Nat} (hk : B.old k) : k < w.heap.size := Nat.lt_of_lt_of_le (B.lt k hk) h.size
theorem Bel.fresh {B : Bas} {w : World} (h : Bel B w) : ¬ B.old w.heap.size := fun k => Nat.lt_irrefl _ (h.lt k)
theorem Bel.to {B : Bas} {w w' : World} (h : Bel B w) (hos : w'.os = w.os) (htape : w'.tape = w.tape) (hout : w'.output = w.output) (hsize : w.heap.size ≤ w'.heap.size) (hb : ∀ k, B.old k → w'.heap[k]? = w.heap[k]?) : Bel B w' :=
  ⟨hos.trans h.os, htape.trans h.tape, hout.trans h.output, Nat.le_trans h.size hsize, fun k hk => (hb k hk).trans (h.block k hk)⟩
theorem Bel.go {B : Bas} {w w' : World} (h : Bel B w) (b : Below w.heap.size w w') : Bel B w' := h.to b.os b.tape b.output b.size fun k hk => b.block k (h.lt hk)
def At (B : Bas) (φ : Phi) (w : World) (b : Nat) : AO → Prop
  | .row c e => ∃ x κ vs, φ b = some (x, κ) ∧ w.heap[x]? = some (.cells vs e (0, 0)) ∧ VRl φ c vs.toList
  | .grow es e sz => ∃ v vs, φ.s b = some v ∧ w.ownsRow 0 e sz v es.length (vs.flatMap fun u => u.cells.toList) ∧ VRl φ.fz es vs ∧ ∀ u ∈ vs, u.cells.size = sz ∧ ∀ c ∈ u.cells.toList, c.oneCell' = true
  | .map es clk => ∃ x κ l, φ b = some (x, κ) ∧ w.heap[x]? = some (.map l clk) ∧ MR φ.fz es l.toList
  | .siter s p => ∃ x κ, φ b = some (x, κ) ∧ w.heap[x]? = some (.stringIter ⟨s.toArray⟩ p)
def img (φ : Phi) (b : Nat) : AO → Option Nat
  | .grow _ _ _ => (φ.s b).bind Value.ownBlock
  | _ => (φ b).map (·.1)
structure Rel (B : Bas) (φ : Phi) (h : AH) (w : World) : Prop where
  below : Bel B w
  fro : ∀ b o, φ.f b = some o → w.heap[b]? = some o
  obj : ∀ b o, getH b h = some o → At B φ w b o
  sep : ∀ b b' o o' k, getH b h = some o → getH b' h = some o' → img φ b o = some k → img φ b' o' = some k → b = b'
  gf : ∀ b o k, getH b h = some o → img φ b o = some k → ¬ B.old k ∧ k < w.heap.size ∧ φ.f k = none
theorem owns_block {w w' : World} {base size n : Nat} {e : TypeId} {v : Value} {xs : List Value} (h : w.ownsRow base e size v n xs) (hk : ∀ k, v.ownBlock = some k → w'.heap[k]? = w.heap[k]?) : w'.ownsRow base e size v n xs := by
  refine ⟨h.1, h.2.imp id ?_⟩
  rintro ⟨g, cap, cur, rfl, a, b, r⟩
  exact ⟨g, cap, cur, rfl, a, (hk g rfl).trans b, r⟩
theorem block_lt {w : World} {k : Nat} {o : Obj} (h : w.heap[k]? = some o) : k < w.heap.size := (Array.getElem?_eq_some_iff.1 h).1
section
variable {B : Bas} {φ φ' : Phi} {h : AH} {w w' : World}
def SameO (φ φ' : Phi) (b : Nat) : AO → Prop
  | .row c _ => φ' b = φ b ∧ ∀ vs, VRl φ c vs → VRl φ' c vs
  | .grow _ _ _ => φ'.s b = φ.s b ∧ ∀ k o, φ.f k = some o → φ'.f k = some o
  | .map _ _ => φ' b = φ b ∧ ∀ k o, φ.f k = some o → φ'.f k = some o
  | .siter _ _ => φ' b = φ b
theorem SameO.img {b : Nat} {o : AO} (k : SameO φ φ' b o) : img φ' b o = Sv.img φ b o := by
  cases o <;> simp only [SameO] at k <;> simp only [Sv.img] <;> first | rw [k.1] | rw [k]
theorem fz_le_of (h : ∀ k o, φ.f k = some o → φ'.f k = some o) : φ.fz.le φ'.fz := ⟨fun _ _ e => (by cases e), fun _ _ e => (by cases e), h⟩
theorem At.imp {b : Nat} {o : AO} (k : At B φ w b o) (s : SameO φ φ' b o) (hw : ∀ j, Sv.img φ b o = some j → w'.heap[j]? = w.heap[j]?) : At B φ' w' b o := by
  cases o with
  | row c e =>
    obtain ⟨x, κ, vs, h1, h2, h3⟩ := k
    exact ⟨x, κ, vs, by rw [s.1, h1], (hw x (by simp [Sv.img, h1])).trans h2, s.2 _ h3⟩
  | grow es e sz =>
    obtain ⟨v, vs, h1, h2, h3, h4⟩ := k
    exact ⟨v, vs, by rw [s.1, h1], owns_block h2 (fun j hj => hw j (by simp [Sv.img, h1, hj])), h3.mono (fz_le_of s.2), h4⟩
  | map es clk =>
    obtain ⟨x, κ, l, h1, h2, h3⟩ := k
    exact ⟨x, κ, l, by rw [s.1, h1], (hw x (by simp [Sv.img, h1])).trans h2, h3.mono (fz_le_of s.2)⟩
  | siter t p =>
    obtain ⟨x, κ, h1, h2⟩ := k
    exact ⟨x, κ, by rw [show φ' b = φ b from s, h1], (hw x (by simp [Sv.img, h1])).trans h2⟩
theorem Rel.frame (r : Rel B φ h w) (hs : ∀ b o, getH b h = some o → SameO φ φ' b o) (hb : Bel B w') (hsz : w.heap.size ≤ w'.heap.size) (hf : ∀ b o, φ'.f b = some o → w'.heap[b]? = some o)
    (hk : ∀ b o k, getH b h = some o → img φ b o = some k → w'.heap[k]? = w.heap[k]? ∧ φ'.f k = none) : Rel B φ' h w' :=
  ⟨hb, hf, fun b o e => (r.obj b o e).imp (hs b o e) (fun j hj => (hk b o j e hj).1),
   fun b b' o o' k e e' i i' => r.sep b b' o o' k e e' (by rw [← (hs b o e).img]; exact i) (by rw [← (hs b' o' e').img]; exact i'),
   fun b o k e i => by
    rw [(hs b o e).img] at i
    have := r.gf b o k e i
    exact ⟨this.1, Nat.lt_of_lt_of_le this.2.1 hsz, (hk b o k e i).2⟩⟩
theorem Rel.del (r : Rel B φ h w) (b : Nat) : Rel B φ (delH b h) w :=
  ⟨r.below, r.fro, fun c o e => r.obj c o (get_del e).2, fun c c' o o' k e e' => r.sep c c' o o' k (get_del e).2 (get_del e').2, fun c o k e => r.gf c o k (get_del e).2⟩
theorem Rel.add (r : Rel B φ h w) {b : Nat} {o : AO} (ha : At B φ w b o) (hi : ∀ k, img φ b o = some k → ¬ B.old k ∧ k < w.heap.size ∧ φ.f k = none ∧ ∀ c o', c ≠ b → getH c h = some o' → img φ c o' ≠ some k) : Rel B φ (setH b o h) w := by
  have key : ∀ c o', getH c (setH b o h) = some o' → (c = b ∧ o' = o) ∨ (c ≠ b ∧ getH c h = some o') := by
    intro c o' e
    by_cases hc : c = b
    · subst hc; rw [get_set_same] at e; cases e; exact .inl ⟨rfl, rfl⟩
    · rw [get_set_other o hc] at e; exact .inr ⟨hc, e⟩
  refine ⟨r.below, r.fro, ?_, ?_, ?_⟩
  · intro c o' e
    rcases key c o' e with ⟨rfl, rfl⟩ | ⟨_, e⟩
    · exact ha
    · exact r.obj c o' e
  · intro c c' o1 o2 k e1 e2 i1 i2
    rcases key c o1 e1 with ⟨rfl, rfl⟩ | ⟨n1, f1⟩ <;> rcases key c' o2 e2 with ⟨rfl, rfl⟩ | ⟨n2, f2⟩
    · rfl
    · exact absurd i2 ((hi k i1).2.2.2 c' o2 n2 f2)
    · exact absurd i1 ((hi k i2).2.2.2 c o1 n1 f1)
    · exact r.sep c c' o1 o2 k f1 f2 i1 i2
  · intro c o' k e i
    rcases key c o' e with ⟨rfl, rfl⟩ | ⟨_, e⟩
    · exact ⟨(hi k i).1, (hi k i).2.1, (hi k i).2.2.1⟩
    · exact r.gf c o' k e i
theorem SameO.of_le (hle : φ.le φ') {b : Nat} {o : AO} (ha : At B φ w b o) : SameO φ φ' b o := by
  cases o with
  | row c e => obtain ⟨x, κ, vs, h1, _⟩ := ha; exact ⟨by rw [h1]; exact hle.m _ _ h1, fun _ k => k.mono hle⟩
  | grow es e sz => obtain ⟨v, us, h1, _⟩ := ha; exact ⟨by rw [h1]; exact hle.s _ _ h1, hle.f⟩
  | map es clk => obtain ⟨x, κ, l, h1, _⟩ := ha; exact ⟨by rw [h1]; exact hle.m _ _ h1, hle.f⟩
  | siter t p => obtain ⟨x, κ, h1, _⟩ := ha; show φ' b = φ b; rw [h1]; exact hle.m _ _ h1
theorem Rel.go (r : Rel B φ h w) (hle : φ.le φ') (hb : Below w.heap.size w w') (hf : ∀ b o, φ'.f b = some o → w'.heap[b]? = some o) (hn : ∀ b o, φ'.f b = some o → φ.f b = some o ∨ w.heap.size ≤ b) : Rel B φ' h w' :=
  r.frame (fun b o e => SameO.of_le hle (r.obj b o e)) (r.below.go hb) hb.size hf fun b o k e i => by
    have := r.gf b o k e i
    refine ⟨hb.block k this.2.1, ?_⟩
    cases hx : φ'.f k with
    | none => rfl
    | some x =>
      rcases hn k x hx with q | q
      · rw [this.2.2] at q; cases q
      · omega
theorem Rel.drew (r : Rel B φ h w) {k : Nat} : Rel B φ h (w.drewN k) :=
  ⟨⟨r.below.os, r.below.tape, r.below.output, r.below.size, r.below.block⟩, r.fro, fun b o e => by have := r.obj b o e; cases o <;> exact this, r.sep, r.gf⟩
def Phi.ext (φ : Phi) (b x : Nat) : Phi := ⟨fun i => if i = b then some (x, 0) else φ i, φ.s, φ.f⟩
theorem Phi.ext_same (φ : Phi) (b x : Nat) : (φ.ext b x) b = some (x, 0) := if_pos rfl
theorem Phi.ext_le {φ : Phi} {b x : Nat} (h : φ b = none) : φ.le (φ.ext b x) :=
  ⟨fun i y e => by show (if i = b then _ else _) = _; rw [if_neg (by rintro rfl; rw [h] at e; cases e)]; exact e, fun _ _ e => e, fun _ _ e => e⟩
theorem Rel.alloc (r : Rel B φ h w) {b : Nat} (hb : φ b = none) {o : AO} {ob : Obj} (hng : ∀ es e sz, o ≠ .grow es e sz) (ha : At B (φ.ext b w.heap.size) (w.alloc ob) b o) : Rel B (φ.ext b w.heap.size) (setH b o h) (w.alloc ob) := by
  have h1 : Rel B (φ.ext b w.heap.size) h (w.alloc ob) := r.go (Phi.ext_le hb) ((Below.refl _ w).alloc (Nat.le_refl _) ob) (fun c o' e => (heap_alloc_old w ob (block_lt (r.fro c o' e))).trans (r.fro c o' e)) (fun c o' e => .inl e)
  refine h1.add ha fun k hk => ?_
  have hk' : k = w.heap.size := by
    cases o <;> simp only [img, Phi.ext_same, Option.map_some, Option.some.injEq] at hk <;> first | exact hk.symm | exact absurd rfl (hng _ _ _)
  subst hk'
  refine ⟨r.below.fresh, by simp, ?_, fun c o' hc e i => ?_⟩
  · show φ.f w.heap.size = none
    cases hx : φ.f w.heap.size with
    | none => rfl
    | some x => have := block_lt (r.fro _ _ hx); omega
  · have s : SameO φ (φ.ext b w.heap.size) c o' := SameO.of_le (Phi.ext_le hb) (r.obj c o' e)
    rw [s.img] at i
    have := (r.gf c o' _ e i).2.1; omega
theorem Rel.set (r : Rel B φ h w) {b x κ : Nat} {o o' : AO} (hb : getH b h = some o) (hg : ∀ es e sz, o ≠ .grow es e sz) (hg' : ∀ es e sz, o' ≠ .grow es e sz) (hx : φ b = some (x, κ))
    (hos : w'.os = w.os) (htape : w'.tape = w.tape) (hout : w'.output = w.output) (hsize : w'.heap.size = w.heap.size) (hother : ∀ j, j ≠ x → w'.heap[j]? = w.heap[j]?) (ha : At B φ w' b o') : Rel B φ (setH b o' h) w' := by
  have hi : img φ b o = some x := by
    cases o with
    | grow => exact absurd rfl (hg _ _ _)
    | _ => simp [img, hx]
  have hxx := r.gf b o x hb hi
  have h1 : Rel B φ (delH b h) w' := (r.del b).frame (fun c o1 e => SameO.of_le (Phi.le_refl φ) (r.obj c o1 (get_del e).2)) (r.below.to hos htape hout (by rw [hsize]; exact Nat.le_refl _) fun j hj => hother j (by rintro rfl; exact hxx.1 hj)) (by rw [hsize]; exact Nat.le_refl _)
    (fun c o1 e => by rw [hother c (by rintro rfl; rw [hxx.2.2] at e; cases e)]; exact r.fro c o1 e)
    (fun c o1 k e i => by
      have e' := get_del e
      exact ⟨hother k (by rintro rfl; exact e'.1 (r.sep c b o1 o k e'.2 hb i hi)), (r.gf c o1 k e'.2 i).2.2⟩)
  have h2 : Rel B φ (setH b o' (delH b h)) w' := h1.add ha fun k hk => by
    have : k = x := by
      cases o' with
      | grow => exact absurd rfl (hg' _ _ _)
      | _ => simp [img, hx] at hk; exact hk.symm
    subst this
    exact ⟨hxx.1, by rw [hsize]; exact hxx.2.1, hxx.2.2, fun c o1 hc e i => hc (r.sep c b o1 o k (get_del e).2 hb i hi)⟩
  have key : ∀ c, getH c (setH b o' (delH b h)) = getH c (setH b o' h) := by
    intro c
    by_cases hc : c = b
    · subst hc; rw [get_set_same, get_set_same]
    · rw [get_set_other _ hc, get_set_other _ hc, get_del_other hc]
  exact ⟨h2.below, h2.fro, fun c o1 e => h2.obj c o1 (by rw [key]; exact e), fun c c' o1 o2 k e e' => h2.sep c c' o1 o2 k (by rw [key]; exact e) (by rw [key]; exact e'), fun c o1 k e => h2.gf c o1 k (by rw [key]; exact e)⟩
end
end Sv
end Go.Proofs.YthhacfehjgfpbaaDoor
end
section
namespace Go.Proofs.YthhacfehjgfpbaaDoor
open Go Go.RowKit
set_option linter.unusedSimpArgs false
set_option linter.unusedVariables false
namespace Sv
theorem R_quo {P : Program} {n : Nat} {σ : Nat → Value} {w : World} {dst : Option Tmp} {x y : Operand} {t t' ty : TypeId} {ps : String} {af : Array Edge} {g : Option (Nat × Bool)} {k : IntKind} {a b : Int}
    (hx : ev n σ x = .int k a) (hy : ev n σ y = .int k b) (hr : b ≠ 0 ∧ kLo k ≤ a.tdiv b ∧ a.tdiv b ≤ kHi k) : (execOp (ev n σ) ⟨dst, .binOp .quo t x y t', ty, ps, af, g⟩).run P w = .ok (.value (.int k (a.tdiv b))) w := by
  have h1 := hr.1
  have h2 := wrap_id k _ hr.2
  simp [execOp, hx, hy, go_sem, Op.intDiv, h1, h2]
theorem R_rem {P : Program} {n : Nat} {σ : Nat → Value} {w : World} {dst : Option Tmp} {x y : Operand} {t t' ty : TypeId} {ps : String} {af : Array Edge} {g : Option (Nat × Bool)} {k : IntKind} {a b : Int}
    (hx : ev n σ x = .int k a) (hy : ev n σ y = .int k b) (hr : b ≠ 0) : (execOp (ev n σ) ⟨dst, .binOp .rem t x y t', ty, ps, af, g⟩).run P w = .ok (.value (.int k (a.tmod b))) w := by
  simp [execOp, hx, hy, go_sem, Op.intDiv, hr]
section
variable (P : Program) (ev : Operand → Option AV)
noncomputable def kEq (k k' : IntKind) : Bool := match k, k' with
  | .i8, .i8 | .i16, .i16 | .i32, .i32 | .i64, .i64 | .u8, .u8 | .u16, .u16 | .u32, .u32 | .u64, .u64 => true
  | _, _ => false
theorem kEq_eq {k k' : IntKind} (h : kEq k k' = true) : k = k' := by cases k <;> cases k' <;> first | rfl | cases h
noncomputable def boolT (t : Nat) : Bool := match P.underlying t with
  | some .bool => true
  | _ => false
noncomputable def strT (t : Nat) : Bool := match P.underlying t with
  | some .string => true
  | _ => false
noncomputable def kindT (t : Nat) : Option IntKind := match P.underlying t with
  | some (.int k) => some k
  | _ => none
noncomputable def elemT (t : Nat) : Option Nat := match P.underlying t with
  | some (.slice e) => some e
  | _ => none
theorem boolT_u {P : Program} {t : Nat} (h : boolT P t = true) : P.underlying t = some .bool := by unfold boolT at h; split at h <;> first | assumption | cases h
theorem strT_u {P : Program} {t : Nat} (h : strT P t = true) : P.underlying t = some .string := by unfold strT at h; split at h <;> first | assumption | cases h
theorem kindT_u {P : Program} {t : Nat} {k : IntKind} (h : kindT P t = some k) : P.underlying t = some (.int k) := by
  unfold kindT at h
  split at h
  · rename_i k' hk; cases h; exact hk
  · cases h
theorem elemT_u {P : Program} {t e : Nat} (h : elemT P t = some e) : P.underlying t = some (.slice e) := by
  unfold elemT at h
  split at h
  · rename_i k' hk; cases h; exact hk
  · cases h
abbrev PC := Option (AV × Option Prop)
noncomputable def intC (op : BinOp) (k : IntKind) (a b : Int) : PC := match op with
  | .add => some (.int k (a + b), some (kLo k ≤ a + b ∧ a + b ≤ kHi k))
  | .sub => some (.int k (a - b), some (kLo k ≤ a - b ∧ a - b ≤ kHi k))
  | .mul => some (.int k (a * b), some (kLo k ≤ a * b ∧ a * b ≤ kHi k))
  | .quo => some (.int k (a.tdiv b), some (b ≠ 0 ∧ kLo k ≤ a.tdiv b ∧ a.tdiv b ≤ kHi k))
  | .rem => some (.int k (a.tmod b), some (b ≠ 0))
  | .lss => some (.bool (decide (a < b)), none)
  | .leq => some (.bool (decide (a ≤ b)), none)
  | .gtr => some (.bool (decide (b < a)), none)
  | .geq => some (.bool (decide (b ≤ a)), none)
  | .eql => some (.bool (decide (a = b)), none)
  | .neq => some (.bool (!decide (a = b)), none)
  | _ => none
noncomputable def strC (op : BinOp) (l m : List UInt8) : PC := match op with
  | .add => some (.str (l ++ m), some (l.length + m.length ≤ 9223372036854775807))
  | .lss => some (.bool (Op.bytesLess l m), none)
  | .eql => some (.bool (decide (l = m)), none)
  | .neq => some (.bool (!decide (l = m)), none)
  | _ => none
noncomputable def boolC (op : BinOp) (t : Nat) (a b : Bool) : PC := match op with
  | .eql => bif boolT P t then some (.bool (a == b), none) else none
  | .neq => bif boolT P t then some (.bool (!(a == b)), none) else none
  | _ => none
noncomputable def binC (op : BinOp) (t : Nat) (x y : Operand) : PC := match ev x, ev y with
  | some (.int k a), some (.int k' b) => bif kEq k k' then intC op k a b else none
  | some (.str l), some (.str m) => strC op l m
  | some (.bool a), some (.bool b) => boolC P op t a b
  | _, _ => none
noncomputable def andC (a b : Option Prop) : Option Prop := match a, b with
  | none, b => b
  | a, none => a
  | some p, some q => some (p ∧ q)
noncomputable def holds : Option Prop → Prop
  | none => True
  | some p => p
theorem andC_holds {a b : Option Prop} (h : holds (andC a b)) : holds a ∧ holds b := by
  cases a <;> cases b <;> first | exact ⟨trivial, h⟩ | exact ⟨h, trivial⟩ | exact h
noncomputable def loC : Option Operand → Option (Int)
  | none => some 0
  | some x => match ev x with
    | some (.int _ a) => some a
    | _ => none
noncomputable def hiC (d : Nat) : Option Operand → Option (Int)
  | none => some (d : Int)
  | some x => match ev x with
    | some (.int _ a) => some a
    | _ => none
noncomputable def partC (t : Nat) (x : Operand) (lo hi : Option Operand) : PC := match ev x with
  | some (.str l) => bif strT P t then match loC ev lo, hiC ev l.length hi with
      | some i, some j => some (.str ((l.take j.toNat).drop i.toNat), some (0 ≤ i ∧ i ≤ j ∧ j ≤ l.length))
      | _, _ => none
    else none
  | some (.row sz n g) => match elemT P t with
    | some e => bif (match tsz P e with | some s => Nat.beq s sz && Nat.blt 0 sz | none => false) then match loC ev lo, hiC ev n hi with
        | some i, some j => some (.row sz (j.toNat - i.toNat) (fun k => g (i.toNat + k)), some (0 ≤ i ∧ i ≤ j ∧ j ≤ n))
        | _, _ => none
      else none
    | none => none
  | _ => none
noncomputable def idxC (t : Nat) (x i : Operand) : PC := match ev x, ev i with
  | some (.str l), some (.int _ a) => bif strT P t then some (.int .u8 ((byteAt l a.toNat).toNat : Int), some (0 ≤ a ∧ a.toNat < l.length)) else none
  | _, _ => none
noncomputable def adrC (t : Nat) (x i : Operand) : PC := match ev x, ev i with
  | some (.row sz n g), some (.int _ a) => match elemT P t with
    | some e => bif (match tsz P e with | some s => Nat.beq s sz | none => false) then some (.fp (g a.toNat), some (0 ≤ a ∧ a.toNat < n)) else none
    | none => none
  | _, _ => none
noncomputable def cnvC (s d : Nat) (x : Operand) : PC := match ev x with
  | some (.int k a) => match kindT P s, kindT P d with
    | some k1, some k2 => bif kEq k k1 then some (.int k2 a, some (kLo k2 ≤ a ∧ a ≤ kHi k2)) else none
    | _, _ => none
  | _ => none
noncomputable def negC (op : UnOp) (x : Operand) : PC := match op with
  | .neg => match ev x with
    | some (.int k a) => some (.int k (0 - a), some (kLo k ≤ 0 - a ∧ 0 - a ≤ kHi k))
    | _ => none
  | _ => none
noncomputable def lenC (c : Call) : PC := match c.callee with
  | .builtin .len => match c.args.toList, c.argTypes.toList with
    | [x], [t] => match ev x with
      | some (.row _ n _) => match elemT P t with
        | some _ => some (.int .i64 (n : Int), none)
        | none => none
      | _ => none
    | _, _ => none
  | _ => none
noncomputable def fldC (s : Nat) (x : Operand) (f : Nat) : PC := match ev x with
  | some (.fp (.agg l)) => match P.underlying s with
    | some (.struct fields) => match fields.toList[f]? with
      | some fd => match tsz P fd.type with
        | some (m + 1) => match aggT P fd.type with
          | some true => some (.fp (.agg ((l.drop fd.offset).take (m + 1))), none)
          | some false => match l[fd.offset]? with
            | some a => bif one a && !aggd a then some (.fp a, none) else none
            | none => none
          | none => none
        | _ => none
      | none => none
    | _ => none
  | _ => none
noncomputable def pickC (c x y : Operand) : PC := match ev c, ev x, ev y with
  | some (.bool q), some (.bool a), some (.bool b) => some (.bool (bif q then a else b), none)
  | some (.bool q), some (.cond q' (.bool a)), some (.bool b) => some (.bool (bif q then a else b), some (q = true → q' = true))
  | some (.bool q), some (.bool a), some (.cond q' (.bool b)) => some (.bool (bif q then a else b), some (q = false → q' = true))
  | _, _, _ => none
noncomputable def orP (a : PC) (b : Option AV) : PC := match a with
  | some r => some r
  | none => match b with
    | some a => some (a, none)
    | none => none
noncomputable def pureC (o : Oper) : PC := match o.op with
  | .pick c x y => orP (pickC ev c x y) (pureA P ev o)
  | .binOp op t x y _ => orP (binC P ev op t x y) (pureA P ev o)
  | .unOp op t x => orP (negC ev op x) (pureA P ev o)
  | .convert s d x => orP (cnvC P ev s d x) (pureA P ev o)
  | .fieldAddr s x f => orP (fldC P ev s x f) (pureA P ev o)
  | .indexAddr t x i => orP (adrC P ev t x i) (pureA P ev o)
  | .index t x i => orP (idxC P ev t x i) (pureA P ev o)
  | .slice t x lo hi none => orP (partC P ev t x lo hi) (pureA P ev o)
  | .nilCheck x => match ev x with
    | some (.fp a) => some (.fp a, none)
    | _ => orP none (pureA P ev o)
  | .call c => orP (lenC P ev c) (pureA P ev o)
  | _ => orP none (pureA P ev o)
end
section
variable {P : Program} {eA : Operand → Option AV} {φ : Phi} {n : Nat} {σ : Nat → Value}
theorem V_int {k : IntKind} {a : Int} : VR φ (.int k a) (.int k a) := by simp [VR]
theorem V_bool {b : Bool} : VR φ (.bool b) (.bool b) := by simp [VR]
theorem V_str {l : List UInt8} : VR φ (.str l) (S l) := by simp [VR]
theorem ofOr {a : PC} {b : Option AV} {r : AV × Option Prop} (h : orP a b = some r) : a = some r ∨ (b = some r.1 ∧ r.2 = none) := by
  unfold orP at h
  split at h
  · exact .inl h
  · split at h
    · cases h; exact .inr ⟨rfl, rfl⟩
    · cases h
theorem lo_ok (hev : EVR φ eA (ev n σ)) {lo : Option Operand} {i : Int} (h : loC eA lo = some i) : (lo = none ∧ i = 0) ∨ ∃ x k, lo = some x ∧ ev n σ x = .int k i := by
  unfold loC at h
  split at h
  · cases h; exact .inl ⟨rfl, rfl⟩
  · rename_i x
    split at h
    · rename_i k a hx
      cases h
      have := hev _ _ hx
      simp only [VR] at this
      exact .inr ⟨x, k, rfl, this⟩
    · cases h
theorem hi_ok (hev : EVR φ eA (ev n σ)) {hi : Option Operand} {d : Nat} {i : Int} (h : hiC eA d hi = some i) : (hi = none ∧ i = d) ∨ ∃ x k, hi = some x ∧ ev n σ x = .int k i := by
  unfold hiC at h
  split at h
  · cases h; exact .inl ⟨rfl, rfl⟩
  · rename_i x
    split at h
    · rename_i k a hx
      cases h
      have := hev _ _ hx
      simp only [VR] at this
      exact .inr ⟨x, k, rfl, this⟩
    · cases h
theorem fp_add {b o i s : Nat} : (⟨b, o, none⟩ : Addr).add (i * s) = ⟨b, o + i * s, none⟩ := addr_add b o (i * s)
theorem cond_true' {q : Bool} {α : Type} {x : α} {r : α} {f : Option α} (h : (bif q then some x else none) = some r) : q = true ∧ x = r := by
  cases q
  · cases h
  · cases h; exact ⟨rfl, rfl⟩
theorem pureC_ok (hev : EVR φ eA (ev n σ)) {o : Oper} {a : AV} {C : Option Prop} (h : pureC P eA o = some (a, C)) (hC : holds C) : PureOK P φ (ev n σ) o a := by
  have fall : ∀ {r : AV × Option Prop}, r = (a, C) → pureA P eA o = some r.1 → PureOK P φ (ev n σ) o a := fun e h => by subst e; exact pureA_ok hev h
  obtain ⟨dst, op, ty, ps, af, g⟩ := o
  cases op <;> simp only [pureC] at h
  case pick c x y =>
    rcases ofOr h with h | h
    · unfold pickC at h
      split at h
      · rename_i q a' b' hc hx hy
        cases h
        have hc := hev _ _ hc; have hx := hev _ _ hx; have hy := hev _ _ hy
        simp only [VR] at hc hx hy
        exact ⟨.bool (bif q then a' else b'), fun w => by cases q <;> simp [execOp, hc, hx, hy, asBool, go_sem], V_bool⟩
      · rename_i q q' a' b' hc hx hy
        cases h
        have hc := hev _ _ hc; have hx := hev _ _ hx; have hy := hev _ _ hy
        simp only [VR] at hc hx hy
        refine ⟨.bool (bif q then a' else b'), fun w => ?_, V_bool⟩
        cases q
        · simp [execOp, hc, hy, asBool, go_sem]
        · simp [execOp, hc, hx.1 (hC rfl), asBool, go_sem]
      · rename_i q a' q' b' hc hx hy
        cases h
        have hc := hev _ _ hc; have hx := hev _ _ hx; have hy := hev _ _ hy
        simp only [VR] at hc hx hy
        refine ⟨.bool (bif q then a' else b'), fun w => ?_, V_bool⟩
        cases q
        · simp [execOp, hc, hy.1 (hC rfl), asBool, go_sem]
        · simp [execOp, hc, hx, asBool, go_sem]
      · cases h
    · exact fall rfl h.1
  case binOp op t x y t' =>
    rcases ofOr h with h | h
    · unfold binC at h
      split at h
      · rename_i k a' k' b' hx hy
        have hx := hev _ _ hx; have hy := hev _ _ hy
        simp only [VR] at hx hy
        cases hk : kEq k k' with
        | false => rw [hk] at h; cases h
        | true =>
          rw [hk, cond_true] at h
          have := kEq_eq hk; subst this
          cases op <;> simp only [intC, reduceCtorEq, Option.some.injEq, Prod.mk.injEq] at h <;> (try (exact h.elim)) <;> obtain ⟨rfl, rfl⟩ := h
          · exact ⟨_, fun w => R_add hx hy hC, V_int⟩
          · exact ⟨_, fun w => R_sub hx hy hC, V_int⟩
          · exact ⟨_, fun w => R_mul hx hy hC, V_int⟩
          · exact ⟨_, fun w => R_quo hx hy hC, V_int⟩
          · exact ⟨_, fun w => R_rem hx hy hC, V_int⟩
          all_goals exact ⟨_, fun w => pure_run (by simp only [pureOp, hx, hy, pureBin, if_true]), V_bool⟩
      · rename_i l m hx hy
        have hx := hev _ _ hx; have hy := hev _ _ hy
        simp only [VR] at hx hy
        cases op <;> simp only [strC, reduceCtorEq, Option.some.injEq, Prod.mk.injEq] at h <;> (try (exact h.elim)) <;> obtain ⟨rfl, rfl⟩ := h
        · exact ⟨_, fun w => R_scat hx hy hC, V_str⟩
        · exact ⟨_, fun w => R_seql hx hy, V_bool⟩
        · exact ⟨_, fun w => R_sneq hx hy, V_bool⟩
        · exact ⟨_, fun w => R_slss hx hy, V_bool⟩
      · rename_i a' b' hx hy
        have hx := hev _ _ hx; have hy := hev _ _ hy
        simp only [VR] at hx hy
        cases op <;> simp only [boolC, reduceCtorEq] at h
        · obtain ⟨h1, h2⟩ := cond_true' (f := none) h; cases h2
          exact ⟨_, fun w => R_beql hx hy (boolT_u h1), V_bool⟩
        · obtain ⟨h1, h2⟩ := cond_true' (f := none) h; cases h2
          exact ⟨_, fun w => R_bneq hx hy (boolT_u h1), V_bool⟩
      · cases h
    · exact fall rfl h.1
  case unOp op t x =>
    rcases ofOr h with h | h
    · unfold negC at h
      split at h
      · split at h
        · rename_i k a' hx
          cases h
          have hx := hev _ _ hx
          simp only [VR] at hx
          exact ⟨_, fun w => R_neg hx hC rfl, V_int⟩
        · cases h
      · cases h
    · exact fall rfl h.1
  case convert s d x =>
    rcases ofOr h with h | h
    · unfold cnvC at h
      split at h
      · rename_i k a' hx
        have hx := hev _ _ hx
        simp only [VR] at hx
        split at h
        · rename_i k1 k2 h1 h2
          obtain ⟨h3, h4⟩ := cond_true' (f := none) h
          cases h4
          have := kEq_eq h3; subst this
          exact ⟨_, fun w => R_conv hx (kindT_u h1) (kindT_u h2) hC, V_int⟩
        · cases h
      · cases h
    · exact fall rfl h.1
  case fieldAddr s x f =>
    rcases ofOr h with h | h
    · unfold fldC at h
      split at h
      · rename_i l hx
        have hx := hev _ _ hx
        simp only [VR] at hx
        obtain ⟨b, o, u, hv, ⟨vs, hvs, rfl⟩, cs, e, fr, hf, hl⟩ := hx
        have hcs : (Value.agg vs.toArray).cells.toList = vs := by simp [Value.cells]
        rw [hcs] at hl
        split at h
        · rename_i fields hs
          split at h
          · rename_i fd hfd
            split at h
            · rename_i k hk
              have hrun : ∀ w, (execOp (ev n σ) ⟨dst, .fieldAddr s x f, ty, ps, af, g⟩).run P w = .ok (.value (.pointer (some ⟨b, o + fd.offset, none⟩))) w := by
                intro w
                have h1 : fields[f]? = some fd := by simpa using hfd
                simp [execOp, hv, Instr.fieldAt, Instr.sureAddr, fieldPlace, run_underlying hs, h1, tsz_run hk, addr_add, go_sem]
              have lie : ∀ us : List Value, (∀ j u, us[j]? = some u → vs[fd.offset + j]? = some u) → LieAt φ.f b (o + fd.offset) us := fun us hu => ⟨cs, e, fr, hf, fun j u hj => by rw [Nat.add_assoc]; exact hl _ u (hu j u hj)⟩
              split at h
              · cases h
                refine ⟨_, hrun, ?_⟩
                simp only [VR]
                refine ⟨b, o + fd.offset, .agg ((vs.drop fd.offset).take (k + 1)).toArray, rfl, ⟨_, (hvs.drop fd.offset).take (k + 1), rfl⟩, lie _ fun j u hj => ?_⟩
                simp only [Value.cells, List.toList_toArray] at hj
                obtain ⟨hlt, _⟩ := List.getElem?_eq_some_iff.1 hj
                rw [List.getElem?_take_of_lt (by simp at hlt; omega), List.getElem?_drop] at hj
                exact hj
              · split at h
                · rename_i a' hp
                  obtain ⟨h3, h4⟩ := cond_true' (f := none) h
                  cases h4
                  simp only [Bool.and_eq_true, Bool.not_eq_true'] at h3
                  obtain ⟨v, hv1, hv2⟩ := hvs.get hp
                  refine ⟨_, hrun, ?_⟩
                  simp only [VR]
                  refine ⟨b, o + fd.offset, v, rfl, hv2, lie _ fun j u hj => ?_⟩
                  rw [(hv2.one h3.1).2] at hj
                  cases j with
                  | zero => simp at hj; subst hj; exact hv1
                  | succ j => simp at hj
                · cases h
              · cases h
            · cases h
          · cases h
        · cases h
      · cases h
    · exact fall rfl h.1
  case indexAddr t x i =>
    rcases ofOr h with h | h
    · unfold adrC at h
      split at h
      · rename_i sz m g' k a' hx hi
        have hx := hev _ _ hx; have hi := hev _ _ hi
        simp only [VR] at hx hi
        split at h
        · rename_i e he
          obtain ⟨h3, h4⟩ := cond_true' (f := none) h
          cases h4
          split at h3
          · rename_i s hs
            have := Nat.eq_of_beq_eq_true h3; subst this
            obtain ⟨hc1, hc2⟩ := hC
            obtain ⟨u, hu, hr⟩ := hx
            obtain ⟨j, rfl⟩ : ∃ j : Nat, a' = (j : Int) := ⟨a'.toNat, by omega⟩
            simp only [Int.toNat_natCast] at hc2 ⊢
            rcases hr with ⟨h0, _⟩ | ⟨b, o, c, hv, _, hl⟩
            · omega
            · refine ⟨.pointer (some ⟨b, o + j * s, none⟩), fun w => ?_, ?_⟩
              · have h1 : (0 : Int) ≤ (j : Int) ∧ (j : Int) < (m : Int) := by omega
                simp [execOp, Instr.indexAt, asIntOf, hv, hi, run_underlying (elemT_u he), tsz_run hs, h1, hc2, fp_add, go_sem]
              · simp only [VR]; exact ⟨b, o + j * s, u j, rfl, hu j hc2, (hl j hc2).2⟩
          · cases h3
        · cases h
      · cases h
    · exact fall rfl h.1
  case index t x i =>
    rcases ofOr h with h | h
    · unfold idxC at h
      split at h
      · rename_i l k a' hx hi
        have hx := hev _ _ hx; have hi := hev _ _ hi
        simp only [VR] at hx hi
        obtain ⟨h3, h4⟩ := cond_true' (f := none) h
        cases h4
        obtain ⟨hc1, hc2⟩ := hC
        exact ⟨_, fun w => R_sidx hx hi (strT_u h3) (by omega) hc2, V_int⟩
      · cases h
    · exact fall rfl h.1
  case slice t x lo hi mx =>
    cases mx with
    | some m => simp only at h; rcases ofOr h with h | h; · cases h
                exact fall rfl h.1
    | none =>
    simp only at h
    rcases ofOr h with h | h
    · unfold partC at h
      split at h
      · rename_i l hx
        have hx := hev _ _ hx
        simp only [VR] at hx
        cases hs : strT P t with
        | false => rw [hs] at h; cases h
        | true =>
          rw [hs, cond_true] at h
          split at h
          · rename_i i j hlo hhi
            cases h
            obtain ⟨hc1, hc2, hc3⟩ := hC
            refine ⟨S ((l.take j.toNat).drop i.toNat), fun w => ?_, V_str⟩
            have hr := run_sslice (P := P) (t := t) w l (lo.map (ev n σ)) (hi.map (ev n σ)) i.toNat j.toNat (strT_u hs) ?_ ?_ (by omega) (by omega)
            · simp [execOp, Instr.sliceAt, run_underlying (strT_u hs), hx, hr, go_sem]
            · rcases lo_ok hev hlo with ⟨rfl, rfl⟩ | ⟨y, k, rfl, hy⟩
              · exact .inl ⟨rfl, rfl⟩
              · exact .inr ⟨k, by simp only [Option.map_some, hy]; congr 2; omega⟩
            · rcases hi_ok hev hhi with ⟨rfl, rfl⟩ | ⟨y, k, rfl, hy⟩
              · exact .inl ⟨rfl, by omega⟩
              · exact .inr ⟨k, by simp only [Option.map_some, hy]; congr 2; omega⟩
          · cases h
      · rename_i sz m g' hx
        have hx := hev _ _ hx
        simp only [VR] at hx
        split at h
        · rename_i e he
          obtain ⟨h3, h4⟩ : (match tsz P e with | some s => Nat.beq s sz && Nat.blt 0 sz | none => false) = true ∧ _ := by
            cases hq : (match tsz P e with | some s => Nat.beq s sz && Nat.blt 0 sz | none => false) with
            | false => rw [hq] at h; cases h
            | true => rw [hq, cond_true] at h; exact ⟨rfl, h⟩
          split at h3
          · rename_i s hs
            simp only [Bool.and_eq_true] at h3
            have := Nat.eq_of_beq_eq_true h3.1; subst this
            split at h4
            · rename_i i j hlo hhi
              cases h4
              obtain ⟨hc1, hc2, hc3⟩ := hC
              obtain ⟨i, rfl⟩ : ∃ q : Nat, i = (q : Int) := ⟨i.toNat, by omega⟩
              obtain ⟨j, rfl⟩ : ∃ q : Nat, j = (q : Int) := ⟨j.toNat, by omega⟩
              simp only [Int.toNat_natCast]
              obtain ⟨u, hu, hr⟩ := hx
              have l1 : (lo.map (ev n σ) = none ∧ i = 0) ∨ ∃ k, lo.map (ev n σ) = some (.int k (i : Int)) := by
                rcases lo_ok hev hlo with ⟨rfl, q⟩ | ⟨y, k, rfl, hy⟩
                · exact .inl ⟨rfl, by omega⟩
                · exact .inr ⟨k, by simp only [Option.map_some, hy]⟩
              have l2 : (hi.map (ev n σ) = none ∧ j = m) ∨ ∃ k, hi.map (ev n σ) = some (.int k (j : Int)) := by
                rcases hi_ok hev hhi with ⟨rfl, q⟩ | ⟨y, k, rfl, hy⟩
                · exact .inl ⟨rfl, by omega⟩
                · exact .inr ⟨k, by simp only [Option.map_some, hy]⟩
              have hu' : ∀ q, q < j - i → VR φ.fz (g' (i + q)) (u (i + q)) := fun q hq => hu _ (by omega)
              rcases hr with ⟨rfl, hv | ⟨ad, c, hv⟩⟩ | ⟨b, o, c, hv, hmc, hl⟩
              · obtain rfl : i = 0 := by omega
                obtain rfl : j = 0 := by omega
                have hb := fun w => run_bounds (P := P) (isS := true) (len := 0) (cap := 0) (m := 0) (mx := none) l1 l2 (.inl ⟨rfl, rfl⟩) (Nat.le_refl _) (Nat.le_refl _) (Nat.le_refl _) w
                refine ⟨.slice none 0 0, fun w => ?_, by simp only [VR]; exact ⟨u, by simp, .inl ⟨rfl, .inl rfl⟩⟩⟩
                simp only [execOp, Instr.sliceAt, Instr.slice, Sem.run_bind, Sem.run_pure, run_underlying (elemT_u he), Result.andThen_ok, hv, hb, tsz_run hs, Option.map_none] <;> (try split) <;> rfl
              · obtain rfl : i = 0 := by omega
                obtain rfl : j = 0 := by omega
                have hb := fun w => run_bounds (P := P) (isS := true) (len := 0) (cap := c) (m := c) (mx := none) l1 l2 (.inl ⟨rfl, rfl⟩) (Nat.le_refl _) (Nat.zero_le _) (Nat.le_refl _) w
                refine ⟨.slice (some (if c = 0 then ad else ad.add (0 * s))) 0 c, fun w => ?_, by simp only [VR]; exact ⟨u, by simp, .inl ⟨rfl, .inr ⟨_, _, rfl⟩⟩⟩⟩
                simp only [execOp, Instr.sliceAt, Instr.slice, Sem.run_bind, Sem.run_pure, run_underlying (elemT_u he), Result.andThen_ok, hv, hb, tsz_run hs, Option.map_none] <;> (try split) <;> rfl
              · have hb := fun w => run_bounds (P := P) (isS := true) (cap := c) (m := c) (mx := none) l1 l2 (.inl ⟨rfl, rfl⟩) (by omega) (by omega) (Nat.le_refl _) w
                refine ⟨.slice (some (if c = i then ⟨b, o, none⟩ else (⟨b, o, none⟩ : Addr).add (i * s))) (j - i) (c - i), fun w => ?_, ?_⟩
                · simp only [execOp, Instr.sliceAt, Instr.slice, Sem.run_bind, Sem.run_pure, run_underlying (elemT_u he), Result.andThen_ok, hv, hb, tsz_run hs, Option.map_none] <;> (try split) <;> rfl
                · simp only [VR]
                  refine ⟨fun q => u (i + q), hu', ?_⟩
                  by_cases hci : j - i = 0
                  · exact .inl ⟨hci, .inr ⟨_, _, by rw [hci]⟩⟩
                  · refine .inr ⟨b, o + i * s, c - i, by rw [if_neg (by omega), addr_add], by omega, fun q hq => ?_⟩
                    have := hl (i + q) (by omega)
                    refine ⟨this.1, ?_⟩
                    rw [show o + i * s + q * s = o + (i + q) * s by rw [Nat.add_mul]; omega]
                    exact this.2
            · cases h4
          · cases h3
        · cases h
      · cases h
    · exact fall rfl h.1
  case nilCheck x =>
    split at h
    · rename_i a' hx
      cases h
      have hx := hev _ _ hx
      have hx' := hx
      simp only [VR] at hx
      obtain ⟨b, o, u, hv, _⟩ := hx
      refine ⟨.pointer (some ⟨b, o, none⟩), fun w => by simp [execOp, hv, go_sem], by rw [← hv]; exact hx'⟩
    · rcases ofOr h with h | h
      · cases h
      · exact fall rfl h.1
  case call c =>
    rcases ofOr h with h | h
    · unfold lenC at h
      split at h
      · rename_i hcal
        split at h
        · rename_i x t hargs htys
          split at h
          · rename_i sz m g' hx
            split at h
            · rename_i e he
              cases h
              have hx := hev _ _ hx
              simp only [VR] at hx
              obtain ⟨u, hu, hr⟩ := hx
              obtain ⟨cal, args, tys⟩ := c
              simp only at hcal hargs htys
              subst hcal
              have ha : args = #[x] := by apply Array.ext'; simpa using hargs
              have ht : tys = #[t] := by apply Array.ext'; simpa using htys
              subst ha ht
              refine ⟨_, fun w => ?_, V_int⟩
              rcases hr with ⟨rfl, hv | ⟨a, c, hv⟩⟩ | ⟨b, o, c, hv, _⟩ <;> simp [execOp, resolve, invoke, builtin, Builtin.len_, hv, run_underlying (elemT_u he), go_sem, goInt]
            · cases h
          · cases h
        · cases h
      · cases h
    · exact fall rfl h.1
  all_goals (rcases ofOr h with h | h <;> first | (cases h; done) | exact fall rfl h.1)
end
end Sv
end Go.Proofs.YthhacfehjgfpbaaDoor
end
section
namespace Go.Proofs.YthhacfehjgfpbaaDoor
open Go Go.RowKit
set_option linter.unusedSimpArgs false
set_option linter.unusedVariables false
namespace Sv
theorem run_u {s : Sem Unit} {P : Program} {w w' : World} (h : s.run P w = .ok () w') : ((do s; pure .skip : Sem Next)).run P w = .ok .skip w' := by
  simp only [Sem.run_bind, h, Result.andThen_ok, Sem.run_pure]
theorem run_v' {s : Sem Value} {P : Program} {w w' : World} {v : Value} (h : s.run P w = .ok v w') : ((do pure (.value (← s)) : Sem Next)).run P w = .ok (.value v) w' := by
  simp only [Sem.run_bind, h, Result.andThen_ok, Sem.run_pure]
inductive NK where
  | ptr
  | sl (n c : Nat)
  | map
noncomputable def NK.av (k : NK) (b : Nat) : AV := match k with
  | .ptr => .ptr b 0
  | .sl n c => .sl b 0 n c false
  | .map => .map b
def NK.val (k : NK) (x : Nat) : Value := match k with
  | .ptr => .pointer (some ⟨x, 0, none⟩)
  | .sl n c => .slice (some ⟨x, 0, none⟩) n c
  | .map => .map (some x)
theorem NK.vr {φ : Phi} {k : NK} {b x κ : Nat} (h : φ b = some (x, κ)) : VR φ (k.av b) (k.val x) := by
  cases k <;> simp only [NK.av, NK.val, VR]
  · exact ⟨x, κ, h, rfl⟩
  · exact ⟨x, κ, h, .inr ⟨trivial, rfl⟩⟩
  · exact ⟨x, κ, h, rfl⟩
section
variable (P : Program)
noncomputable def tby (t : Nat) : Option Nat := match P.info? t with
  | some i => some i.bytes
  | none => none
noncomputable def zeroRowA (z : List AV) (n : Nat) : List AV := (List.range n).map fun i => (z[i % z.length]?).getD (.tup [])
noncomputable def bsliceN (t len : Nat) (ps : List (Nat × AV)) : Option (NK × AO) := match P.underlying t with
  | some (.slice e) => match tsz P e with
    | some size => match zeroA P e with
      | some z => bif Nat.beq (cellsOf z).length size && !aggd z && Nat.blt 0 size && Nat.ble (len * size) 1000000 then (match fillA (fun i => some (i * size, size)) (zeroRowA (cellsOf z) (len * size)) ps with
          | some c => some (.sl len len, .row c e)
          | none => none) else none
      | none => none
    | none => none
  | _ => none
noncomputable def mksliceN (t : Nat) (l c : AV) : Option (NK × AO) := match P.underlying t with
  | some (.slice e) => match tsz P e with
    | some size => match zeroA P e with
      | some z => match tby P e with
        | some by_ => match natOf l with
          | some n => match natOf c with
            | some m => bif Nat.beq (cellsOf z).length size && !aggd z && Nat.blt 0 size && Nat.ble n m && Nat.ble m 1000000 && Nat.ble (by_ * m) 1000000000 then some (.sl n m, .row (zeroRowA (cellsOf z) (m * size)) e) else none
            | none => none
          | none => none
        | none => none
      | none => none
    | none => none
  | _ => none
noncomputable def newA (ev : Operand → Option AV) (o : Oper) : Option (NK × AO) := match o.op with
  | .alloc t => match zeroA P t with
    | some z => bif aggd z then none else some (.ptr, .row (cellsOf z) t)
    | none => none
  | .box t x => match ev x with
    | some a => bif aggd a then none else some (.ptr, .row (cellsOf a) t)
    | none => none
  | .buildSlice t n parts => match evp ev parts.toList with
    | some ps => bsliceN P t n ps
    | none => none
  | .makeSlice t l c => match ev l with
    | some a => match ev c with
      | some b => mksliceN P t a b
      | none => none
    | none => none
  | .makeMap _ r => match r with
    | none => some (.map, .map [] 0)
    | some _ => none
  | _ => none
end
section
variable {P : Program} {φ : Phi} {ρ : Operand → Value} {ev : Operand → Option AV}
theorem tby_info {P : Program} {t n m : Nat} (h1 : tby P t = some n) (h2 : tsz P t = some m) : ∃ i, P.info? t = some i ∧ i.bytes = n ∧ i.size = m := by
  unfold tby at h1
  unfold tsz at h2
  split at h1
  · rename_i i hi
    rw [hi] at h2
    cases h1; cases h2; exact ⟨i, hi, rfl, rfl⟩
  · cases h1
theorem VRl.of_map {f : Nat → AV} {g : Nat → Value} : ∀ {l : List Nat}, (∀ i ∈ l, VR φ (f i) (g i)) → VRl φ (l.map f) (l.map g)
  | [], _ => .nil
  | a :: l, k => .cons (k a (by simp)) (VRl.of_map fun i hi => k i (by simp [hi]))
theorem zeroRowA_ok {z : List AV} {zs : Array Value} (hz : VRl φ z zs.toList) (hp : 0 < z.length) (n : Nat) : VRl φ (zeroRowA z n) ((Array.range n).map fun i => zs[i % zs.size]!).toList := by
  rw [Array.toList_map, Array.toList_range]
  refine VRl.of_map fun i _ => ?_
  have hl : zs.size = z.length := by have := hz.length; simpa using this
  have hlt : i % z.length < z.length := Nat.mod_lt _ hp
  rw [hl, List.getElem?_eq_getElem hlt]
  obtain ⟨v, hv, hr⟩ := hz.get (i := i % z.length) (List.getElem?_eq_getElem hlt)
  have hv' : zs[i % z.length]! = v := by
    rw [getElem!_def]
    have : zs[i % z.length]? = some v := by simpa using hv
    rw [this]
  rw [hv']; exact hr
theorem run_newRow (e : Nat) (cs : Array Value) (w : World) : (newRow e cs).run P w = .ok ⟨w.heap.size, 0, none⟩ (w.alloc (.cells cs e)) := rfl
theorem wrap_small {n : Nat} (h : n ≤ 1000000) : IntKind.i64.wrap (n : Int) = (n : Int) := by
  simp only [IntKind.wrap, IntKind.signed, IntKind.bits]
  simp
  omega
def NewOK (P : Program) (φ : Phi) (s : Sem Value) (k : NK) (ao : AO) : Prop := (∀ es e sz, ao ≠ .grow es e sz) ∧ ∃ ob, (∀ (B : Bas) (φ' : Phi) (w : World) b x, φ.le φ' → φ' b = some (x, 0) → w.heap[x]? = some ob → At B φ' w b ao) ∧ ∀ w : World, s.run P w = .ok (k.val w.heap.size) (w.alloc ob)
theorem objR_row {c : List AV} {e : Nat} {cs : Array Value} (h : VRl φ c cs.toList) : ∀ (B : Bas) (φ' : Phi) (w : World) b x, φ.le φ' → φ' b = some (x, 0) → w.heap[x]? = some (.cells cs e (0, 0)) → At B φ' w b (.row c e) := fun _ _ _ _ x hle hx hw => ⟨x, 0, cs, hx, hw, h.mono hle⟩
theorem bsliceN_ok {t len : Nat} {ps : List (Nat × AV)} {qs : Array (Nat × Value)} {k : NK} {ao : AO} (hb : bsliceN P t len ps = some (k, ao)) (hp : NR φ ps qs.toList) : NewOK P φ (Instr.buildSlice t len qs) k ao := by
  unfold bsliceN at hb
  split at hb
  · rename_i e hu
    split at hb
    · rename_i size hs
      split at hb
      · rename_i z hz
        cases hc : (Nat.beq (cellsOf z).length size && !aggd z && Nat.blt 0 size && Nat.ble (len * size) 1000000) with
        | false => rw [hc] at hb; cases hb
        | true =>
          rw [hc, cond_true] at hb
          simp only [Bool.and_eq_true, Bool.not_eq_true'] at hc
          obtain ⟨⟨⟨c1, c2⟩, c3⟩, c4⟩ := hc
          have c1' := Nat.eq_of_beq_eq_true c1
          have c3' : 0 < size := by simpa [Nat.blt_eq] using c3
          have c4' := ble_of c4
          split at hb
          · rename_i c hf
            cases hb
            obtain ⟨zv, h1, h3⟩ := zeroA_run (φ := φ) hz
            have hzr := zeroRowA_ok (h3.cells c2) (by omega) (len * size)
            obtain ⟨rs, f1, f2⟩ := fillA_run _ ps qs.toList _ ((Array.range (len * size)).map fun i => zv.cells[i % zv.cells.size]!) c hf hp hzr
            refine ⟨fun _ _ _ h => (by cases h), _, objR_row f2, fun w => ?_⟩
            show _ = Result.ok (Value.slice (some ⟨w.heap.size, 0, none⟩) len len) _
            by_cases h0 : len * size = 0
            · have hl0 : len = 0 := by rcases Nat.mul_eq_zero.1 h0 with q | q <;> omega
              subst hl0
              have hr0 : ∀ f : Nat → Value, (Array.range (0 * size)).map f = #[] := fun f => by rw [Nat.zero_mul]; simp
              rw [hr0] at f1
              simp only [Instr.buildSlice, Sem.run_bind, run_underlying hu, Result.andThen_ok, tsz_run hs, Sem.run_pure]
              rw [if_neg (by omega), if_pos h0]
              simp only [Sem.run_pure, Result.andThen_ok, Sem.run_bind, hr0, f1, run_newRow]
            · simp only [Instr.buildSlice, Sem.run_bind, run_underlying hu, Result.andThen_ok, tsz_run hs, if_neg h0, Sem.run_pure]
              rw [if_neg (by omega)]
              simp only [Sem.run_pure, Result.andThen_ok, Sem.run_bind, h1, f1, run_newRow]
          · cases hb
      · cases hb
    · cases hb
  · cases hb
theorem mksliceN_ok {t : Nat} {l c : AV} {lv cv : Value} {k : NK} {ao : AO} (hb : mksliceN P t l c = some (k, ao)) (hl : VR φ l lv) (hc : VR φ c cv) : NewOK P φ (Instr.makeSlice t lv cv) k ao := by
  unfold mksliceN at hb
  split at hb
  · rename_i e hu
    split at hb
    · rename_i size hs
      split at hb
      · rename_i z hz
        split at hb
        · rename_i by_ hby
          split at hb
          · rename_i n hn
            split at hb
            · rename_i m hm
              cases hcc : (Nat.beq (cellsOf z).length size && !aggd z && Nat.blt 0 size && Nat.ble n m && Nat.ble m 1000000 && Nat.ble (by_ * m) 1000000000) with
              | false => rw [hcc] at hb; cases hb
              | true =>
                rw [hcc, cond_true] at hb
                simp only [Bool.and_eq_true, Bool.not_eq_true'] at hcc
                obtain ⟨⟨⟨⟨⟨c1, c2⟩, c3⟩, c4⟩, c5⟩, c6⟩ := hcc
                have c1' := Nat.eq_of_beq_eq_true c1
                have c3' : 0 < size := by simpa [Nat.blt_eq] using c3
                have c4' := ble_of c4; have c5' := ble_of c5; have c6' := ble_of c6
                cases hb
                obtain ⟨zv, h1, h3⟩ := zeroA_run (φ := φ) hz
                have hzr := zeroRowA_ok (h3.cells c2) (by omega) (m * size)
                obtain ⟨kl, rfl⟩ := natOf_VR hn hl
                obtain ⟨kc, rfl⟩ := natOf_VR hm hc
                obtain ⟨i, hi, hib, hisz⟩ := tby_info hby hs
                have ht : ∀ w : World, (typeInfo e).run P w = .ok i w := fun w => by simp [typeInfo, hi, go_sem]
                refine ⟨fun _ _ _ h => (by cases h), _, objR_row hzr, fun w => ?_⟩
                show _ = Result.ok (Value.slice (some ⟨w.heap.size, 0, none⟩) n m) _
                have w1 := wrap_small c5'
                have w2 := wrap_small (Nat.le_trans c4' c5')
                have g1 : ¬ ((i.bytes : Int) * (m : Int) > 2 ^ 48) := by
                  rw [hib]
                  have h5 : ((by_ * m : Nat) : Int) ≤ ((1000000000 : Nat) : Int) := Int.ofNat_le.2 c6'
                  rw [Int.natCast_mul] at h5
                  have h6 : (2 : Int) ^ 48 = 281474976710656 := rfl
                  omega
                have g2 : ¬ ((m : Int) < 0) := by omega
                have g3 : ¬ ((n : Int) < 0) := by omega
                have g4 : ¬ ((n : Int) > (m : Int)) := by omega
                have cnd : ((decide ((m : Int) < 0) || decide ((i.bytes : Int) * (m : Int) > 2 ^ 48)) || decide ((n : Int) < 0) || decide ((n : Int) > (m : Int))) = false := by
                  rw [decide_eq_false g1, decide_eq_false g2, decide_eq_false g3, decide_eq_false g4]; rfl
                by_cases q : m * size = 0
                · have hr0 : ∀ f : Nat → Value, (Array.range (m * size)).map f = #[] := fun f => by rw [q]; simp
                  simp only [Instr.makeSlice, asInt, asIntOf, Sem.run_bind, run_underlying hu, Result.andThen_ok, Sem.run_pure, ht, w1, w2]
                  rw [if_neg (by rw [cnd]; simp)]
                  simp only [Sem.run_bind, run_askRoom, Int.toNat_natCast, tsz_run hs, Result.andThen_ok, if_pos q, Sem.run_pure, hr0, run_newRow]
                · simp only [Instr.makeSlice, asInt, asIntOf, Sem.run_bind, run_underlying hu, Result.andThen_ok, Sem.run_pure, ht, w1, w2]
                  rw [if_neg (by rw [cnd]; simp)]
                  simp only [Sem.run_bind, run_askRoom, Int.toNat_natCast, tsz_run hs, Result.andThen_ok, if_neg q, h1, Sem.run_pure, run_newRow]
            · cases hb
          · cases hb
        · cases hb
      · cases hb
    · cases hb
  · cases hb
theorem newA_ok (hev : EVR φ ev ρ) {o : Oper} {k : NK} {ao : AO} (h : newA P ev o = some (k, ao)) :
    (∀ es e sz, ao ≠ .grow es e sz) ∧ ∃ ob, (∀ (B : Bas) (φ' : Phi) (w : World) b x, φ.le φ' → φ' b = some (x, 0) → w.heap[x]? = some ob → At B φ' w b ao) ∧ ∀ w : World, (execOp ρ o).run P w = .ok (.value (k.val w.heap.size)) (w.alloc ob) := by
  have fin : ∀ {s : Sem Value}, execOp ρ o = (do pure (.value (← s)) : Sem Next) → NewOK P φ s k ao → (∀ es e sz, ao ≠ .grow es e sz) ∧ ∃ ob, (∀ (B : Bas) (φ' : Phi) (w : World) b x, φ.le φ' → φ' b = some (x, 0) → w.heap[x]? = some ob → At B φ' w b ao) ∧ ∀ w : World, (execOp ρ o).run P w = .ok (.value (k.val w.heap.size)) (w.alloc ob) := by
    rintro s he ⟨h0, ob, h1, h2⟩
    exact ⟨h0, ob, h1, fun w => by rw [he]; exact run_v' (h2 w)⟩
  obtain ⟨dst, op, type, pos, after, guard⟩ := o
  cases op <;> simp only [newA, reduceCtorEq] at h
  case alloc t =>
    split at h
    · rename_i z hz
      cases hd : aggd z with
      | true => rw [hd] at h; cases h
      | false =>
        rw [hd, cond_false] at h
        cases h
        obtain ⟨zv, h1, h2⟩ := zeroA_run (φ := φ) hz
        refine fin (s := Instr.alloc t true (.tuple #[])) rfl ⟨fun _ _ _ h => (by cases h), _, objR_row (h2.cells hd), fun w => ?_⟩
        simp only [Instr.alloc, Sem.run_bind, h1, Result.andThen_ok, newVar, run_newRow, Sem.run_pure]
        rfl
    · cases h
  case box t x =>
    split at h
    · rename_i z hz
      cases hd : aggd z with
      | true => rw [hd] at h; cases h
      | false =>
        rw [hd, cond_false] at h
        cases h
        refine fin (s := Instr.box t (ρ x)) rfl ⟨fun _ _ _ h => (by cases h), _, objR_row ((hev _ _ hz).cells hd), fun w => ?_⟩
        simp only [Instr.box, Sem.run_bind, Result.andThen_ok, newVar, run_newRow, Sem.run_pure]
        rfl
    · cases h
  case buildSlice t n parts =>
    split at h
    · rename_i ps hps
      have hp := evp_ok hev hps
      refine fin (s := Instr.buildSlice t n (parts.map fun (i, x) => (i, ρ x))) ?_ (bsliceN_ok h (by simpa using hp))
      simp only [execOp]
    · cases h
  case makeMap t r =>
    split at h
    · cases h
      refine ⟨fun _ _ _ h => (by cases h), .map #[] 0, fun B φ' w b x _ hx hw => ⟨x, 0, #[], hx, hw, by simp [MR]⟩, fun w => ?_⟩
      simp [execOp, Instr.makeMap, go_sem]
      rfl
    · cases h
  case makeSlice t l c =>
    split at h
    · rename_i a1 ha
      split at h
      · rename_i b1 hb
        exact fin (s := Instr.makeSlice t (ρ l) (ρ c)) rfl (mksliceN_ok h (hev _ _ ha) (hev _ _ hb))
      · cases h
    · cases h
end
section
variable (P : Program)
noncomputable def loadS (t : Nat) (a : AV) (h : AH) : Option AV := match a with
  | .ptr b off => match getH b h with
    | some (.row c _) => match aggT P t with
      | some true => match tsz P t with
        | some n => bif Nat.ble (off + n) c.length then some (.agg ((c.drop off).take n)) else none
        | none => none
      | some false => c[off]?
      | none => none
    | _ => none
  | .fp (.agg l) => match aggT P t with
    | some true => match tsz P t with
      | some n => bif Nat.beq n l.length then some (.agg l) else none
      | none => none
    | some false => match l with
      | a :: _ => some a
      | [] => none
    | none => none
  | .fp a => match aggT P t with
    | some false => bif one a then some a else none
    | _ => none
  | _ => none
noncomputable def storeS (t : Nat) (a v : AV) (h : AH) : Option AH := match a with
  | .ptr b off => match tsz P t with
    | some n => match getH b h with
      | some (.row c e) => bif Nat.beq (cellsOf v).length n && !aggd v && Nat.ble (off + n) c.length && ones (cellsOf v) then some (setH b (.row (c.take off ++ cellsOf v ++ c.drop (off + n)) e) h) else none
      | _ => none
    | none => none
  | _ => none
end
section
variable {P : Program} {φ : Phi} {B : Bas} {w : World} {h : AH}
theorem Rel.rowAt (r : Rel B φ h w) {b : Nat} {c : List AV} {e : Nat} (hb : getH b h = some (.row c e)) {x κ : Nat} (hx : φ b = some (x, κ)) : ∃ vs, w.heap[x]? = some (.cells vs e (0, 0)) ∧ VRl φ c vs.toList := by
  obtain ⟨x', κ', vs, h1, h2, h3⟩ := r.obj b _ hb
  rw [hx] at h1; cases h1
  exact ⟨vs, h2, h3⟩
theorem lie_cell {f : Nat → Option Obj} {b o : Nat} {us : List Value} (hf : ∀ b o, f b = some o → w.heap[b]? = some o) (k : LieAt f b o us) {j : Nat} {u : Value} (hj : us[j]? = some u) : w.cell? ⟨b, o + j, none⟩ = some u := by
  obtain ⟨cs, e, fr, h1, h2⟩ := k
  have := hf _ _ h1
  have h3 := (h2 j u hj).1
  simp [World.cell?, this, h3]
theorem loadS_ok {t : Nat} {a r : AV} {x : Value} (hl : loadS P t a h = some r) (hx : VR φ a x) (hr : Rel B φ h w) : ∃ v, (Instr.loadAt t x).run P w = .ok v w ∧ VR φ r v := by
  have agg : ∀ {b o n : Nat} {us : List Value}, aggT P t = some true → tsz P t = some n → us.length = n → (∀ j v, us[j]? = some v → w.cell? ⟨b, o + j, none⟩ = some v) → (Instr.loadAt t (.pointer (some ⟨b, o, none⟩))).run P w = .ok (.agg us.toArray) w := by
    intro b o n us ha hn hl hc
    have := run_loadCells_list (P := P) w ⟨b, o, none⟩ us (fun j v hj => by rw [addr_add]; exact hc j v hj)
    rw [hl] at this
    simp only [Instr.loadAt, Instr.sureAddr, Sem.run_bind, Sem.run_pure, Result.andThen_ok, loadVar, aggT_run ha, if_true, tsz_run hn, this]
  have sca : ∀ {b o : Nat} {v : Value}, aggT P t = some false → w.cell? ⟨b, o, none⟩ = some v → (Instr.loadAt t (.pointer (some ⟨b, o, none⟩))).run P w = .ok v w := by
    intro b o v ha hc
    simp [Instr.loadAt, Instr.sureAddr, loadVar, aggT_run ha, hc, go_sem]
  unfold loadS at hl
  split at hl
  · rename_i b off
    simp only [VR] at hx
    obtain ⟨y, κ, hφ, rfl⟩ := hx
    split at hl
    · rename_i c e hb
      obtain ⟨vs, e1, e2⟩ := hr.rowAt hb hφ
      have cell : ∀ j v, vs.toList[j]? = some v → w.cell? ⟨y, j, none⟩ = some v := fun j v hj => by simp [World.cell?, e1]; simpa using hj
      split at hl
      · rename_i ha
        split at hl
        · rename_i n hn
          cases hc : Nat.ble (off + n) c.length with
          | false => rw [hc] at hl; cases hl
          | true =>
            rw [hc, cond_true] at hl; cases hl
            have hle := ble_of hc
            have hlen := e2.length
            refine ⟨_, agg ha hn (us := (vs.toList.drop off).take n) (by simp at hlen ⊢; omega) (fun j v hj => cell _ _ ?_), by simp only [VR]; exact ⟨_, (e2.drop off).take n, rfl⟩⟩
            obtain ⟨hlt, _⟩ := List.getElem?_eq_some_iff.1 hj
            rw [List.getElem?_take_of_lt (by simp at hlt; omega), List.getElem?_drop] at hj
            exact hj
        · cases hl
      · rename_i ha
        obtain ⟨v, h1, h2⟩ := e2.get hl
        exact ⟨v, sca ha (cell _ _ h1), h2⟩
      · cases hl
    · cases hl
  · rename_i l
    simp only [VR] at hx
    obtain ⟨b, o, u, rfl, ⟨vs, hvs, rfl⟩, hlie⟩ := hx
    have hcs : (Value.agg vs.toArray).cells.toList = vs := by simp [Value.cells]
    rw [hcs] at hlie
    split at hl
    · rename_i ha
      split at hl
      · rename_i n hn
        obtain ⟨h3, h4⟩ := cond_true' (f := none) hl
        cases h4
        have hlen := hvs.length
        refine ⟨_, agg ha hn (us := vs) (by rw [hlen, Nat.eq_of_beq_eq_true h3]) (fun j v hj => lie_cell hr.fro hlie hj), by simp only [VR]; exact ⟨vs, hvs.mono (Phi.le_fz φ), rfl⟩⟩
      · cases hl
    · rename_i ha
      split at hl
      · rename_i a l'
        cases hl
        obtain ⟨v, vs', rfl, h1, _⟩ := hvs.cons_inv
        exact ⟨v, sca ha (by have := lie_cell hr.fro hlie (j := 0) rfl; simpa using this), h1.mono (Phi.le_fz φ)⟩
      · cases hl
    · cases hl
  · rename_i a hna
    simp only [VR] at hx
    obtain ⟨b, o, u, rfl, hu, hlie⟩ := hx
    split at hl
    · rename_i ha
      obtain ⟨h3, h4⟩ := cond_true' (f := none) hl
      cases h4
      have h1 := (hu.one h3).2
      rw [h1] at hlie
      exact ⟨u, sca ha (by have := lie_cell hr.fro hlie (j := 0) rfl; simpa using this), hu.mono (Phi.le_fz φ)⟩
    · cases hl
  · cases hl
theorem storeS_ok {t : Nat} {a v : AV} {av vv : Value} {h' : AH} (hs : storeS P t a v h = some h') (ha : VR φ a av) (hv : VR φ v vv) (r : Rel B φ h w) : ∃ w', (Instr.storeAt t av vv).run P w = .ok () w' ∧ Rel B φ h' w' := by
  unfold storeS at hs
  split at hs
  · rename_i b off
    simp only [VR] at ha
    obtain ⟨x, κ, hφ, rfl⟩ := ha
    split at hs
    · rename_i n hn
      split at hs
      · rename_i c e hb
        obtain ⟨hc, h4⟩ := cond_true' (f := none) hs
        cases h4
        simp only [Bool.and_eq_true, Bool.not_eq_true'] at hc
        obtain ⟨⟨⟨c1, c2⟩, c3⟩, c4⟩ := hc
        have hcells := hv.cells c2
        have hlen : vv.cells.size = n := by have := hcells.length; simp only [Array.length_toList] at this; rw [this]; exact Nat.eq_of_beq_eq_true c1
        obtain ⟨vs, e1, e2⟩ := r.rowAt hb hφ
        have hlv := e2.length
        have hln := Nat.eq_of_beq_eq_true c1
        have c3' := ble_of c3
        simp only [Array.length_toList] at hlv
        have hrun := run_storeCells_at P x off e vv.cells.toList 0 vs w e1 (by simp; omega) (hcells.ones c4)
        have hst : (Instr.storeAt t (.pointer (some ⟨x, off, none⟩)) vv).run P w = (storeCells ⟨x, off, none⟩ vv.cells.toList).run P w := by
          simp only [Instr.storeAt, Instr.sureAddr, Sem.run_bind, Sem.run_pure, Result.andThen_ok, storeVar, tsz_run hn]
          rw [if_neg (by simp [hlen])]
        refine ⟨_, hst.trans hrun, r.set hb (by simp) (by simp) hφ rfl rfl rfl (by simp) (fun j hj => setRow_other w x j _ hj) ⟨x, κ, _, hφ, setRow_heap w x vs _ e _ e1, ?_⟩⟩
        simp only [List.toList_toArray, Nat.add_zero]
        rw [← hln, ← hcells.length]
        exact ((e2.take off).append hcells).append (e2.drop _)
      · cases hs
    · cases hs
  · cases hs
end
end Sv
end Go.Proofs.YthhacfehjgfpbaaDoor
end
section
namespace Go.Proofs.YthhacfehjgfpbaaDoor
open Go Go.RowKit
set_option linter.unusedSimpArgs false
set_option linter.unusedVariables false
namespace Sv
theorem run_append_src {P : Program} (w : World) {base : Nat} {t tx ty e : TypeId} {i : TypeInfo} {z : Value} (ht : P.underlying t = some (.slice e)) (hi : P.info? e = some i) (hz : i.zero = some z) (hzs : z.cells.size = i.size) (hsz : 0 < i.size)
    {v : Value} {n : Nat} {xs : List Value} (hown : w.ownsRow base e i.size v n xs) {x : Value} {m : Nat} {news : List Value} (hs : Src P i.size tx x m news w) (h63 : n + m ≤ 9223372036854775807) (hbytes : (n + m) * i.bytes ≤ 140737488355328) (hbase : base ≤ w.heap.size) :
    ∃ v' w', (Builtin.append_ #[t, tx] ty #[v, x]).run P w = .ok v' w' ∧ w'.ownsRow base e i.size v' (n + m) (xs ++ news) ∧ w.grownBy w' v.ownBlock ∧ (v'.ownBlock = v.ownBlock ∨ v'.ownBlock = some w.heap.size) := by
  have hl := hs.newsLen
  have hlen : (xs ++ news).length = (n + m) * i.size := by rw [List.length_append, hown.1, hl, Nat.add_mul]
  have grown : ∀ (old : Nat), old < n + m → ∀ (row : Option Nat),
      (w.drew.alloc (.cells ((xs ++ news).toArray ++ Builtin.zeroCells z.cells (grownCap w (n + m) old e - (n + m))) e)).ownsRow base e i.size
        (.slice (some ⟨w.heap.size, 0, none⟩) (n + m) (grownCap w (n + m) old e)) (n + m) (xs ++ news) ∧
      w.grownBy (w.drew.alloc (.cells ((xs ++ news).toArray ++ Builtin.zeroCells z.cells (grownCap w (n + m) old e - (n + m))) e)) row := by
    intro old ho row
    have hge := grownCap_ge w (n + m) old e
    have hcm : grownCap w (n + m) old e ≤ maxLen := grownCap_le_maxLen w (n + m) old e (by unfold maxLen; omega)
    refine ⟨⟨hlen, .inr ⟨w.heap.size, _, _, rfl, hbase, heap_alloc_new w.drew _, hge, hcm, ?_, ?_⟩⟩, ⟨rfl, rfl, rfl, by simp, fun k hk _ => heap_alloc_old w.drew _ hk⟩⟩
    · simp only [Array.size_append, List.size_toArray, size_zeroCells, hzs, hlen, ← Nat.add_mul]
      congr 1
      omega
    · simp only [Array.toList_append]
      rw [← hlen]
      exact List.take_left
  rcases hown.2 with ⟨rfl, rfl⟩ | ⟨g, cap, cur, rfl, hbg, hg, hnc, hcm, hcs, htake⟩
  · have hx : xs = [] := List.eq_nil_of_length_eq_zero (by simpa using hown.1)
    subst hx
    by_cases hm : m = 0
    · subst hm
      have hn : news = [] := List.eq_nil_of_length_eq_zero (by simpa using hl)
      subst hn
      refine ⟨.slice none 0 0, w, ?_, World.ownsRow_nil w base e i.size, ⟨rfl, rfl, rfl, Nat.le_refl _, fun _ _ _ => rfl⟩, Or.inl rfl⟩
      rcases hs.kind with ⟨e', hk⟩ | hk <;> simp [Builtin.append_, run_underlying ht, run_underlying hk, sizeOf, typeInfo, hi, hs.len, hs.cells, storeCells]
    · have hold : (Builtin.firstCells i.size 0 (.slice none 0 0)).run P w.drew = .ok ([] : List Value).toArray w.drew := run_firstCells_none (P := P) w.drew i.size 0 0 0
      have hr := run_append_grow_src (P := P) w t tx ty e i z ht hi hz none 0 0 [] hold x m news hs (by omega) (by omega) (growslice_fits (by omega) hbytes)
      have hgr := grown 0 (by omega) (Value.ownBlock (.slice none 0 0))
      exact ⟨_, _, hr, hgr.1, hgr.2, Or.inr rfl⟩
  · by_cases hroom : n + m ≤ cap
    · have hfit : n * i.size + news.length ≤ cur.size := by rw [hl, hcs, ← Nat.add_mul]; exact Nat.mul_le_mul_right _ hroom
      have hst := run_storeCells_at P g (n * i.size) e news 0 cur w hg (by simpa using hfit) hs.one
      have hr : (Builtin.append_ #[t, tx] ty #[.slice (some ⟨g, 0, none⟩) n cap, x]).run P w = .ok (.slice (some ⟨g, 0, none⟩) (n + m) cap) (w.setRow g (cur.toList.take (n * i.size) ++ news ++ cur.toList.drop (n * i.size + news.length)).toArray) := by
        simp only [Nat.add_zero] at hst
        rcases hs.kind with ⟨e', hk⟩ | hk <;> simp [Builtin.append_, run_underlying ht, run_underlying hk, sizeOf, typeInfo, hi, hs.len, hroom, hs.cells, Addr.add_lit, hst]
      refine ⟨_, _, hr, ⟨hlen, .inr ⟨g, cap, _, rfl, hbg, setRow_heap w g cur _ e _ hg, hroom, hcm, ?_, ?_⟩⟩, ⟨rfl, rfl, rfl, by simp, fun k _ hk => setRow_other w g k _ (fun e => hk (by simp [Value.ownBlock, e]))⟩, Or.inl rfl⟩
      · simp only [List.size_toArray, List.length_append, List.length_take, List.length_drop, Array.length_toList]
        omega
      · rw [htake, ← hlen]
        exact List.take_left
    · have holds : ∀ j u, xs[j]? = some u → w.drew.cell? ((⟨g, 0, none⟩ : Addr).add j) = some u := hown.cells (g := g) rfl
      have hold := run_firstCells_some (P := P) w.drew i.size n ⟨g, 0, none⟩ n cap xs hown.1 holds
      have hr := run_append_grow_src (P := P) w t tx ty e i z ht hi hz (some ⟨g, 0, none⟩) n cap xs hold x m news hs (by omega) (by omega) (growslice_fits (by omega) hbytes)
      have hgr := grown cap (by omega) (Value.ownBlock (.slice (some ⟨g, 0, none⟩) n cap))
      exact ⟨_, _, hr, hgr.1, hgr.2, Or.inr rfl⟩
noncomputable def chunk (sz : Nat) : Nat → List AV → List AV
  | 0, _ => []
  | m + 1, c => (bif Nat.beq sz 1 then (match c with | a :: _ => a | [] => .tup []) else .agg (c.take sz)) :: chunk sz m (c.drop sz)
noncomputable def srcS (P : Program) (sz tx : Nat) (x : AV) (h : AH) : Option (Nat × List AV) := match x with
  | .sl b 0 n _ _ => match elemT P tx with
    | some _ => match getH b h with
      | some (.row c _) => bif Nat.beq (n * sz) c.length && frzl c && ones c && Nat.blt 0 sz then some (n, chunk sz n c) else none
      | _ => none
    | none => none
  | .nils => match elemT P tx with
    | some _ => some (0, [])
    | none => none
  | .row s n g => match elemT P tx with
    | some _ => bif Nat.beq s sz then some (n, (List.range n).map g) else none
    | none => none
  | .own b => match elemT P tx with
    | some _ => match getH b h with
      | some (.grow es _ s) => bif Nat.beq s sz then some (es.length, es) else none
      | _ => none
    | none => none
  | .str l => bif strT P tx && Nat.beq sz 1 then some (l.length, l.map fun c => .int .u8 (c.toNat : Int)) else none
  | _ => none
section
variable {P : Program} {φ : Phi} {B : Bas} {w : World} {h : AH}
theorem flatMap_len {vs : List Value} {sz : Nat} (h : ∀ u ∈ vs, u.cells.size = sz) : (vs.flatMap fun u => u.cells.toList).length = vs.length * sz := by
  induction vs with
  | nil => simp
  | cons v r ih =>
    rw [List.flatMap_cons, List.length_append, ih (fun u hu => h u (by simp [hu])), List.length_cons, Nat.add_mul, Nat.one_mul, Array.length_toList, h v (by simp)]; omega
theorem VRl.of_range {f : Nat → AV} {u : Nat → Value} {n : Nat} (h : ∀ i, i < n → VR φ (f i) (u i)) : VRl φ ((List.range n).map f) ((List.range n).map u) :=
  VRl.of_map fun i hi => h i (by simpa using hi)
theorem take_one {α : Type} {l : List α} (h : 0 < l.length) : ∃ a r, l = a :: r := by cases l with | nil => simp at h | cons a r => exact ⟨a, r, rfl⟩
theorem chunk_ok {sz : Nat} (hsz : 0 < sz) : ∀ (m : Nat) (c : List AV) (us : List Value), VRl φ c us → us.length = m * sz → ones c = true → (∀ u ∈ us, u.oneCell' = true) → ∃ vs, VRl φ (chunk sz m c) vs ∧ vs.length = m ∧ (∀ u ∈ vs, u.cells.size = sz) ∧ (vs.flatMap fun u => u.cells.toList) = us
  | 0, c, us, hv, hl, ho, h1 => by
    have : us = [] := List.eq_nil_of_length_eq_zero (by simpa using hl)
    subst this
    exact ⟨[], .nil, rfl, by simp, rfl⟩
  | m + 1, c, us, hv, hl, ho, h1 => by
    have hlen := hv.length
    have hms : (m + 1) * sz = m * sz + sz := by rw [Nat.add_mul, Nat.one_mul]
    have ho' : ones (c.drop sz) = true := by
      clear hv hl hlen
      induction c generalizing sz with
      | nil => simp [ones]
      | cons a r ih =>
        cases sz with
        | zero => exact ho
        | succ s => simp only [List.drop_succ_cons]; simp only [ones, Bool.and_eq_true] at ho
                    cases s with
                    | zero => simpa using ho.2
                    | succ s => exact ih (by omega) ho.2 (by rw [Nat.add_mul, Nat.one_mul])
    obtain ⟨vs, k1, k2, k3, k4⟩ := chunk_ok hsz m (c.drop sz) (us.drop sz) (hv.drop sz) (by rw [List.length_drop]; omega) ho' (fun u hu => h1 u (List.mem_of_mem_drop hu))
    by_cases hs1 : sz = 1
    · subst hs1
      obtain ⟨v, r, rfl⟩ := take_one (l := us) (by omega)
      obtain ⟨a, c', rfl⟩ := take_one (l := c) (by simp only [List.length_cons] at hlen; omega)
      obtain ⟨v', r', e, q1, q2⟩ := hv.cons_inv
      cases e
      simp only [ones, Bool.and_eq_true] at ho
      have hc := (q1.one ho.1).2
      refine ⟨v :: vs, ?_, by simp [k2], ?_, ?_⟩
      · show VRl φ (a :: chunk 1 m c') (v :: vs)
        exact .cons q1 k1
      · intro u hu
        rcases List.mem_cons.1 hu with rfl | hu
        · rw [hc]; rfl
        · exact k3 u hu
      · rw [List.flatMap_cons, k4, hc]; simp
    · refine ⟨.agg (us.take sz).toArray :: vs, ?_, by simp [k2], ?_, ?_⟩
      · show VRl φ ((bif Nat.beq sz 1 then _ else .agg (c.take sz)) :: chunk sz m (c.drop sz)) _
        rw [beq_false hs1, cond_false]
        exact .cons (by simp only [VR]; exact ⟨_, hv.take sz, rfl⟩) k1
      · intro u hu
        rcases List.mem_cons.1 hu with rfl | hu
        · simp [Value.cells]; omega
        · exact k3 u hu
      · rw [List.flatMap_cons, k4]; simp [Value.cells]
end
end Sv
end Go.Proofs.YthhacfehjgfpbaaDoor
end
section
namespace Go.Proofs.YthhacfehjgfpbaaDoor
open Go Go.RowKit
set_option linter.unusedSimpArgs false
set_option linter.unusedVariables false
namespace Sv
theorem Rel.congr {B : Bas} {φ : Phi} {h h' : AH} {w : World} (r : Rel B φ h w) (e : ∀ b, getH b h' = getH b h) : Rel B φ h' w :=
  ⟨r.below, r.fro, fun b o k => r.obj b o (by rw [← e]; exact k), fun b b' o o' k i j => r.sep b b' o o' k (by rw [← e]; exact i) (by rw [← e]; exact j), fun b o k i => r.gf b o k (by rw [← e]; exact i)⟩
mutual
noncomputable def noown (n : Nat) : AV → Bool
  | .own b => !Nat.beq b n
  | .fn _ first cap => noownl n first && noownl n cap
  | .ifc _ a => noown n a
  | .agg l => noownl n l
  | .tup l => noownl n l
  | .cond _ a => noown n a
  | _ => true
noncomputable def noownl (n : Nat) : List AV → Bool
  | [] => true
  | a :: l => noown n a && noownl n l
end
structure Turn (φ φ' : Phi) (b : Nat) : Prop where
  m : ∀ c, φ' c = φ c
  s : ∀ c, c ≠ b → φ'.s c = φ.s c
  f : ∀ k o, φ.f k = some o → φ'.f k = some o
mutual
theorem VR.turn {n : Nat} : ∀ {a : AV} {φ φ' : Phi} {v : Value}, Turn φ φ' n → VR φ a v → noown n a = true → VR φ' a v
  | .bool _, _, _, _, _, k, _ => k
  | .int _ _, _, _, _, _, k, _ => k
  | .str _, _, _, _, _, k, _ => k
  | .ptr _ _, _, _, _, t, k, h => by simp only [VR] at k ⊢; rw [t.m]; exact k
  | .nilp, _, _, _, _, k, _ => k
  | .sl _ _ _ _ _, _, _, _, t, k, h => by simp only [VR] at k ⊢; rw [t.m]; exact k
  | .nils, _, _, _, _, k, _ => k
  | .sle, _, _, _, _, k, _ => k
  | .map _, _, _, _, t, k, h => by simp only [VR] at k ⊢; rw [t.m]; exact k
  | .nilm, _, _, _, _, k, _ => k
  | .fn _ _ _, _, _, _, t, k, h => by
    simp only [VR] at k ⊢
    simp only [noown, Bool.and_eq_true] at h
    obtain ⟨a, b, e1, e2, r⟩ := k; exact ⟨a, b, VRl.turn t e1 h.1, VRl.turn t e2 h.2, r⟩
  | .nilf, _, _, _, _, k, _ => k
  | .ifc _ _, _, _, _, t, k, h => by
    simp only [VR] at k ⊢
    simp only [noown] at h
    obtain ⟨u, e, r⟩ := k; exact ⟨u, VR.turn t e h, r⟩
  | .nili, _, _, _, _, k, _ => k
  | .agg _, _, _, _, t, k, h => by
    simp only [VR] at k ⊢
    simp only [noown] at h
    obtain ⟨u, e, r⟩ := k; exact ⟨u, VRl.turn t e h, r⟩
  | .tup _, _, _, _, t, k, h => by
    simp only [VR] at k ⊢
    simp only [noown] at h
    obtain ⟨u, e, r⟩ := k; exact ⟨u, VRl.turn t e h, r⟩
  | .raw _, _, _, _, _, k, _ => k
  | .row _ _ _, _, _, _, t, k, _ => by
    simp only [VR] at k ⊢
    obtain ⟨u, k1, k2⟩ := k
    exact ⟨u, fun i hi => (k1 i hi).mono (fz_le_of t.f), by
      rcases k2 with k2 | ⟨b, o, c, rfl, k0, k2⟩
      · exact .inl k2
      · exact .inr ⟨b, o, c, rfl, k0, fun i hi => ⟨(k2 i hi).1, by obtain ⟨cs, e, fr, q1, q2⟩ := (k2 i hi).2; exact ⟨cs, e, fr, t.f _ _ q1, q2⟩⟩⟩⟩
  | .fp _, _, _, _, t, k, _ => by
    simp only [VR] at k ⊢
    obtain ⟨b, o, u, e, k1, cs, e', fr, q1, q2⟩ := k
    exact ⟨b, o, u, e, k1.mono (fz_le_of t.f), cs, e', fr, t.f _ _ q1, q2⟩
  | .own c, _, _, _, t, k, h => by
    simp only [VR] at k ⊢
    simp only [noown, Bool.not_eq_true'] at h
    rw [t.s c (by rintro rfl; rw [Nat.beq_refl] at h; cases h)]; exact k
  | .cond _ _, _, _, _, t, k, h => by
    simp only [VR] at k ⊢
    simp only [noown] at h
    exact ⟨fun q => VR.turn t (k.1 q) h, k.2⟩
theorem VRl.turn {n : Nat} : ∀ {l : List AV} {φ φ' : Phi} {vs : List Value}, Turn φ φ' n → VRl φ l vs → noownl n l = true → VRl φ' l vs
  | [], _, _, _, _, k, _ => k
  | _ :: _, _, _, _, t, k, h => by
    simp only [VRl] at k ⊢
    simp only [noownl, Bool.and_eq_true] at h
    obtain ⟨v, vs', e, e1, e2⟩ := k; exact ⟨v, vs', e, VR.turn t e1 h.1, VRl.turn t e2 h.2⟩
end
noncomputable def junk : AV := .cond false (.tup [])
theorem junk_VR {φ : Phi} {v : Value} : VR φ junk v := by
  unfold junk VR
  exact ⟨fun e => (by cases e), fun e => (by cases e)⟩
noncomputable def scrub (b : Nat) (a : AV) : AV := bif noown b a then a else junk
theorem scrub_turn {b : Nat} {a : AV} {φ φ' : Phi} {v : Value} (t : Turn φ φ' b) (k : VR φ a v) : VR φ' (scrub b a) v := by
  unfold scrub
  cases h : noown b a with
  | true => exact VR.turn t k h
  | false => exact junk_VR
theorem scrubl_turn {b : Nat} {φ φ' : Phi} (t : Turn φ φ' b) : ∀ {l : List AV} {vs : List Value}, VRl φ l vs → VRl φ' (l.map (scrub b)) vs
  | [], _, k => by rw [k.nil_inv]; exact .nil
  | a :: l, _, k => by
    obtain ⟨v, vs', rfl, h1, h2⟩ := k.cons_inv
    exact .cons (scrub_turn t h1) (scrubl_turn t h2)
noncomputable def scrubO (b : Nat) : AO → AO
  | .row c e => .row (c.map (scrub b)) e
  | o => o
noncomputable def scrubH (b : Nat) : AH → AH
  | [] => []
  | (k, o) :: r => (k, scrubO b o) :: scrubH b r
theorem get_scrub (b c : Nat) : ∀ h : AH, getH c (scrubH b h) = (getH c h).map (scrubO b)
  | [] => rfl
  | (k, o) :: r => by
    simp only [scrubH, getH]
    rcases beq_cases k c with ⟨e, _⟩ | ⟨e, _⟩ <;> simp only [e, cond_true, cond_false, Option.map_some, get_scrub b c r]
theorem Rel.grown {B : Bas} {w w' : World} {φ φ' : Phi} {h : AH} (r : Rel B φ h w) {b : Nat} {es es' : List AV} {e sz : Nat} {v v' : Value} (hb : getH b h = some (.grow es e sz)) (hv : φ.s b = some v) (t : Turn φ φ' b) (hv' : φ'.s b = some v') (hf : φ'.f = φ.f)
    (hg : w.grownBy w' v.ownBlock) (hn : v'.ownBlock = v.ownBlock ∨ v'.ownBlock = some w.heap.size) (hlt : ∀ k, v'.ownBlock = some k → k < w'.heap.size) (ha : At B φ' w' b (.grow es' e sz)) : Rel B φ' (setH b (.grow es' e sz) (scrubH b h)) w' := by
  have hi : ∀ k, v.ownBlock = some k → ¬ B.old k ∧ k < w.heap.size ∧ φ.f k = none := fun k hk => r.gf b _ k hb (by simp only [img, hv, Option.bind_some, hk])
  have hbelow : Bel B w' := r.below.to hg.os hg.tape hg.output hg.size fun k hk => hg.block k (r.below.lt hk) (fun q => (hi k q.symm).1 hk)
  have hsep : ∀ c o k, c ≠ b → getH c h = some o → img φ c o = some k → some k ≠ v.ownBlock := by
    intro c o k hc e1 i1 q
    exact hc (r.sep c b o _ k e1 hb i1 (by simp only [img, hv, Option.bind_some]; exact q.symm))
  have himg : ∀ c o, c ≠ b → img φ' c (scrubO b o) = img φ c o := by
    intro c o hc
    cases o <;> simp only [scrubO, img] <;> first | rw [t.m] | rw [t.s c hc]
  have h1 : Rel B φ' (scrubH b (delH b h)) w' := by
    have getd : ∀ c o, getH c (scrubH b (delH b h)) = some o → ∃ o1, c ≠ b ∧ getH c h = some o1 ∧ o = scrubO b o1 := by
      intro c o k
      rw [get_scrub] at k
      obtain ⟨o1, k1, k2⟩ := Option.map_eq_some_iff.1 k
      exact ⟨o1, (get_del k1).1, (get_del k1).2, k2.symm⟩
    refine ⟨hbelow, fun k o q => ?_, ?_, ?_, ?_⟩
    · rw [hf] at q
      have := r.fro k o q
      rw [hg.block k (block_lt this) (fun e => by have := (hi k e.symm).2.2; rw [this] at q; cases q)]; exact this
    · intro c o k
      obtain ⟨o1, hc, k1, rfl⟩ := getd c o k
      have hk : ∀ j, img φ c o1 = some j → w'.heap[j]? = w.heap[j]? := fun j hj => hg.block j (r.gf c o1 j k1 hj).2.1 (hsep c o1 j hc k1 hj)
      have ho := r.obj c o1 k1
      cases o1 with
      | row c' e' =>
        obtain ⟨x, κ, vs, q1, q2, q3⟩ := ho
        exact ⟨x, κ, vs, by rw [t.m]; exact q1, (hk x (by simp [img, q1])).trans q2, scrubl_turn t q3⟩
      | grow es0 e0 sz0 =>
        obtain ⟨u, us, q1, q2, q3, q4⟩ := ho
        exact ⟨u, us, by rw [t.s c hc]; exact q1, owns_block q2 (fun j hj => hk j (by simp [img, q1, hj])), q3.mono (fz_le_of t.f), q4⟩
      | map es0 clk =>
        obtain ⟨x, κ, l, q1, q2, q3⟩ := ho
        exact ⟨x, κ, l, by rw [t.m]; exact q1, (hk x (by simp [img, q1])).trans q2, q3.mono (fz_le_of t.f)⟩
      | siter s p =>
        obtain ⟨x, κ, q1, q2⟩ := ho
        exact ⟨x, κ, by rw [t.m]; exact q1, (hk x (by simp [img, q1])).trans q2⟩
    · intro c c' o o' k k1 k2 i1 i2
      obtain ⟨o1, hc1, e1, rfl⟩ := getd c o k1
      obtain ⟨o2, hc2, e2, rfl⟩ := getd c' o' k2
      rw [himg c o1 hc1] at i1; rw [himg c' o2 hc2] at i2
      exact r.sep c c' o1 o2 k e1 e2 i1 i2
    · intro c o k k1 i1
      obtain ⟨o1, hc1, e1, rfl⟩ := getd c o k1
      rw [himg c o1 hc1] at i1
      have := r.gf c o1 k e1 i1
      exact ⟨this.1, Nat.lt_of_lt_of_le this.2.1 hg.size, by rw [hf]; exact this.2.2⟩
  have h2 : Rel B φ' (setH b (.grow es' e sz) (scrubH b (delH b h))) w' := by
    refine h1.add ha fun k hk => ?_
    simp only [img, hv', Option.bind_some] at hk
    have hbk : ¬ B.old k ∧ φ'.f k = none := by
      rcases hn with q | q
      · have := hi k (by rw [← q]; exact hk); exact ⟨this.1, by rw [hf]; exact this.2.2⟩
      · rw [hk] at q; cases q
        refine ⟨r.below.fresh, ?_⟩
        rw [hf]
        cases hx : φ.f w.heap.size with
        | none => rfl
        | some x => have := block_lt (r.fro _ _ hx); omega
    refine ⟨hbk.1, hlt k hk, hbk.2, fun c o hc e1 i1 => ?_⟩
    rw [get_scrub, get_del_other hc] at e1
    obtain ⟨o1, k1, rfl⟩ := Option.map_eq_some_iff.1 e1
    rw [himg c o1 hc] at i1
    rcases hn with q | q
    · exact hsep c o1 k hc k1 i1 (by rw [← q, hk])
    · rw [hk] at q; cases q
      have := (r.gf c o1 _ k1 i1).2.1; omega
  refine h2.congr fun c => ?_
  by_cases hc : c = b
  · subst hc; rw [get_set_same, get_set_same]
  · rw [get_set_other _ hc, get_set_other _ hc, get_scrub, get_scrub, get_del_other hc]
end Sv
end Go.Proofs.YthhacfehjgfpbaaDoor
end
section
namespace Go.Proofs.YthhacfehjgfpbaaDoor
open Go Go.RowKit
set_option linter.unusedSimpArgs false
set_option linter.unusedVariables false
namespace Sv
section
variable {P : Program} {φ : Phi} {B : Bas} {w : World} {h : AH}
theorem range_flat {f : Nat → List Value} {sz : Nat} : ∀ (n : Nat), (∀ i, i < n → (f i).length = sz) → ((List.range n).flatMap f).length = n * sz ∧ ∀ j u, ((List.range n).flatMap f)[j]? = some u → ∃ i k, i < n ∧ j = i * sz + k ∧ (f i)[k]? = some u
  | 0, _ => by simp
  | n + 1, h => by
    obtain ⟨h1, h2⟩ := range_flat n (fun i hi => h i (by omega))
    rw [List.range_succ, List.flatMap_append, List.flatMap_cons, List.flatMap_nil, List.append_nil]
    have hn := h n (by omega)
    refine ⟨by rw [List.length_append, h1, hn, Nat.add_mul, Nat.one_mul], fun j u hj => ?_⟩
    by_cases hlt : j < n * sz
    · rw [List.getElem?_append_left (by omega)] at hj
      obtain ⟨i, k, a, b, c⟩ := h2 j u hj
      exact ⟨i, k, by omega, b, c⟩
    · rw [List.getElem?_append_right (by omega), h1] at hj
      exact ⟨n, j - n * sz, by omega, by omega, hj⟩
theorem flatMap_map {α β γ : Type} (f : α → β) (g : β → List γ) (l : List α) : (l.map f).flatMap g = l.flatMap fun a => g (f a) := by
  rw [List.flatMap_map]
theorem strs_cells (l : List UInt8) : (l.map fun c => Value.int .u8 (c.toNat : Int)).flatMap (fun u => u.cells.toList) = l.map fun c => Value.int .u8 (c.toNat : Int) := by
  induction l with
  | nil => rfl
  | cons a r ih => simp only [List.map_cons, List.flatMap_cons, ih]; rfl
theorem bytesVR {φ : Phi} : ∀ l : List UInt8, VRl φ (l.map fun c => AV.int .u8 (c.toNat : Int)) (l.map fun c => Value.int .u8 (c.toNat : Int))
  | [] => .nil
  | a :: r => .cons V_int (bytesVR r)
theorem srcS_ok {sz tx m : Nat} {x : AV} {xv : Value} {news : List AV} (hs : srcS P sz tx x h = some (m, news)) (hx : VR φ x xv) (r : Rel B φ h w) :
    ∃ us vs, Src P sz tx xv m us w ∧ VRl φ.fz news vs ∧ vs.length = m ∧ us = vs.flatMap (fun u => u.cells.toList) ∧ ∀ u ∈ vs, u.cells.size = sz ∧ ∀ c ∈ u.cells.toList, c.oneCell' = true := by
  unfold srcS at hs
  split at hs
  · rename_i b n c' op
    simp only [VR] at hx
    obtain ⟨y, κ, hφ, hv⟩ := hx
    obtain ⟨cc, hv⟩ : ∃ cc, xv = .slice (some ⟨y, 0, none⟩) n cc := by
      rcases hv with ⟨_, _, hv⟩ | ⟨_, hv⟩ <;> exact ⟨_, hv⟩
    subst hv
    split at hs
    · rename_i e he
      split at hs
      · rename_i c e' hb
        obtain ⟨h3, h4⟩ := cond_true' (f := none) hs
        cases h4
        simp only [Bool.and_eq_true] at h3
        obtain ⟨⟨⟨c1, c2⟩, c3⟩, c4⟩ := h3
        have c1' := Nat.eq_of_beq_eq_true c1
        have c4' : 0 < sz := by simpa [Nat.blt_eq] using c4
        obtain ⟨vs, e1, e2⟩ := r.rowAt hb hφ
        have hl := e2.length
        have hones := e2.ones c3
        obtain ⟨us, k1, k2, k3, k4⟩ := chunk_ok c4' m c vs.toList (VRl.fz e2 c2) (by omega) c3 hones
        refine ⟨vs.toList, us, Src.ofSlice w (elemT_u he) ⟨y, 0, none⟩ m cc vs.toList (by omega) (fun j u hj => ?_) hones, k1, k2, k4.symm, fun u hu => ⟨k3 u hu, fun c hc => hones c (by rw [← k4]; exact List.mem_flatMap.2 ⟨u, hu, hc⟩)⟩⟩
        rw [addr_add, Nat.zero_add]
        simp [World.cell?, e1]; simpa using hj
      · cases hs
    · cases hs
  · simp only [VR] at hx; subst hx
    split at hs
    · rename_i e he
      cases hs
      exact ⟨[], [], Src.ofNil w (elemT_u he) 0, .nil, rfl, rfl, by simp⟩
    · cases hs
  · rename_i s n g
    simp only [VR] at hx
    obtain ⟨u, hu, hr⟩ := hx
    split at hs
    · rename_i e he
      obtain ⟨h3, h4⟩ := cond_true' (f := none) hs
      cases h4
      have := Nat.eq_of_beq_eq_true h3; subst this
      have hV : VRl φ.fz ((List.range m).map g) ((List.range m).map u) := VRl.of_range hu
      rcases hr with ⟨rfl, rfl | ⟨a, c, rfl⟩⟩ | ⟨b, o, c, rfl, _, hl⟩
      · exact ⟨[], [], Src.ofNil w (elemT_u he) 0, .nil, rfl, rfl, by simp⟩
      · exact ⟨[], [], Src.ofSlice w (elemT_u he) a 0 c [] (by simp) (by simp) (by simp), .nil, rfl, rfl, by simp⟩
      · have hsz : ∀ i, i < m → ((u i).cells.toList).length = s := fun i hi => by rw [Array.length_toList]; exact (hl i hi).1
        obtain ⟨f1, f2⟩ := range_flat (f := fun i => (u i).cells.toList) m hsz
        have hone : ∀ i, i < m → ∀ c ∈ (u i).cells.toList, c.oneCell' = true := by
          intro i hi c hc
          obtain ⟨cs, e', fr, _, q⟩ := (hl i hi).2
          obtain ⟨k, hk⟩ := List.mem_iff_getElem?.1 hc
          exact (q k c hk).2
        refine ⟨_, _, Src.ofSlice w (elemT_u he) ⟨b, o, none⟩ m c ((List.range m).flatMap fun i => (u i).cells.toList) f1 (fun j v hj => ?_) ?_, hV, by simp, by rw [List.flatMap_map], ?_⟩
        · obtain ⟨i, k, hi, rfl, hk⟩ := f2 j v hj
          rw [addr_add, ← Nat.add_assoc]
          exact lie_cell r.fro (hl i hi).2 hk
        · intro v hv
          obtain ⟨i, hi, hc⟩ := List.mem_flatMap.1 hv
          exact hone i (by simpa using hi) v hc
        · intro v hv
          obtain ⟨i, hi, rfl⟩ := List.mem_map.1 hv
          exact ⟨(hl i (by simpa using hi)).1, hone i (by simpa using hi)⟩
    · cases hs
  · rename_i b
    simp only [VR] at hx
    obtain ⟨hφ, _⟩ := hx
    split at hs
    · rename_i e he
      split at hs
      · rename_i es e' s hb
        obtain ⟨h3, h4⟩ := cond_true' (f := none) hs
        cases h4
        have := Nat.eq_of_beq_eq_true h3; subst this
        obtain ⟨v, vs, q1, q2, q3, q4⟩ := r.obj b _ hb
        rw [hφ] at q1; cases q1
        have hlen := q3.length
        refine ⟨_, vs, ?_, q3, hlen, rfl, q4⟩
        have hone : ∀ c ∈ (vs.flatMap fun u => u.cells.toList), c.oneCell' = true := by
          intro c hc
          obtain ⟨v, hv, hc⟩ := List.mem_flatMap.1 hc
          exact (q4 v hv).2 c hc
        have hown := q2
        rcases q2.2 with ⟨rfl, hn⟩ | ⟨g, cap, cur, rfl, _⟩
        · rw [hn] at hlen ⊢
          have : vs = [] := List.eq_nil_of_length_eq_zero hlen
          subst this
          exact Src.ofNil w (elemT_u he) 0
        · exact Src.ofSlice w (elemT_u he) ⟨g, 0, none⟩ _ cap _ (by rw [flatMap_len (fun u hu => (q4 u hu).1), hlen]) (hown.cells rfl) hone
      · cases hs
    · cases hs
  · rename_i l
    simp only [VR] at hx; subst hx
    obtain ⟨h3, h4⟩ := cond_true' (f := none) hs
    cases h4
    simp only [Bool.and_eq_true] at h3
    have := Nat.eq_of_beq_eq_true h3.2; subst this
    have hbc : byteCells (⟨l.toArray⟩ : ByteArray) = l.map fun c => Value.int .u8 (c.toNat : Int) := by simp [byteCells]
    have hS := Src.ofString (P := P) w (strT_u h3.1) ⟨l.toArray⟩
    rw [show (⟨l.toArray⟩ : ByteArray).size = l.length by simp [ByteArray.size], hbc] at hS
    refine ⟨_, l.map fun c => Value.int .u8 (c.toNat : Int), hS, ?_, by simp, (strs_cells l).symm, ?_⟩
    · exact bytesVR l
    · intro u hu
      obtain ⟨c, _, rfl⟩ := List.mem_map.1 hu
      exact ⟨rfl, by simp [Value.cells, Value.oneCell']⟩
  · cases hs
end
end Sv
end Go.Proofs.YthhacfehjgfpbaaDoor
end
section
namespace Go.Proofs.YthhacfehjgfpbaaDoor
open Go Go.RowKit
set_option linter.unusedSimpArgs false
set_option linter.unusedVariables false
namespace Sv
structure Res where
  a : AV
  h : AH
  nx : Nat
  k : Option Nat
  C : Option Prop
def Dom (φ : Phi) (nx : Nat) : Prop := ∀ b, nx ≤ b → φ b = none ∧ φ.s b = none
noncomputable def cleanK (k : Option Nat) (a : AV) : AV := match k with
  | none => a
  | some b => scrub b a
def Keeps (φ φ' : Phi) (k : Option Nat) : Prop := φ'.f = φ.f ∧ (∀ a v, VR φ a v → VR φ' (cleanK k a) v) ∧ ∀ b x, φ b = some x → φ' b = some x
theorem Keeps.of_le {φ φ' : Phi} (h : φ.le φ') (hf : φ'.f = φ.f := by rfl) : Keeps φ φ' none := ⟨hf, fun _ _ k => k.mono h, h.m⟩
def Run1 (P : Program) (ρ : Operand → Value) (o : Oper) (w : World) (v : Value) (w' : World) : Prop := (execOp ρ o).run P w = .ok (.value v) w' ∨ ((execOp ρ o).run P w = .ok .skip w' ∧ v = undef)
def OpOK (P : Program) (B : Bas) (φ : Phi) (w : World) (ρ : Operand → Value) (o : Oper) (r : Res) : Prop :=
  holds r.C → ∃ φ' w' v, Run1 P ρ o w v w' ∧ VR φ' r.a v ∧ Rel B φ' r.h w' ∧ Keeps φ φ' r.k ∧ Dom φ' r.nx
def Phi.extS (φ : Phi) (b : Nat) (v : Value) : Phi := ⟨φ.m, fun i => if i = b then some v else φ.s i, φ.f⟩
theorem Phi.extS_same (φ : Phi) (b : Nat) (v : Value) : (φ.extS b v).s b = some v := if_pos rfl
theorem Phi.extS_le {φ : Phi} {b : Nat} {v : Value} (h : φ.s b = none) : φ.le (φ.extS b v) :=
  ⟨fun _ _ e => e, fun i y e => by show (if i = b then _ else _) = _; rw [if_neg (by rintro rfl; rw [h] at e; cases e)]; exact e, fun _ _ e => e⟩
theorem Phi.extS_turn (φ : Phi) (b : Nat) (v : Value) : Turn φ (φ.extS b v) b := ⟨fun _ => rfl, fun c hc => if_neg hc, fun _ _ e => e⟩
theorem Dom.ext {φ : Phi} {nx x : Nat} (d : Dom φ nx) : Dom (φ.ext nx x) (nx + 1) := fun b hb => ⟨by show (if b = nx then _ else _) = _; rw [if_neg (by omega)]; exact (d b (by omega)).1, (d b (by omega)).2⟩
theorem Dom.extS {φ : Phi} {nx : Nat} {v : Value} (d : Dom φ nx) : Dom (φ.extS nx v) (nx + 1) := fun b hb => ⟨(d b (by omega)).1, by show (if b = nx then _ else _) = _; rw [if_neg (by omega)]; exact (d b (by omega)).2⟩
section
variable (P : Program)
noncomputable def zok (e sz : Nat) : Bool := match P.info? e with
  | some i => (match i.zero with | some z => Nat.beq z.cells.size sz | none => false)
  | none => false
noncomputable def thawS (e sz : Nat) (a : AV) (h : AH) (nx : Nat) : Option (Nat × AH × Nat) := match a with
  | .own b => some (b, h, nx)
  | .nils => some (nx, setH nx (.grow [] e sz) h, nx + 1)
  | .sl b 0 n c op => match op with
    | false => match getH b h with
      | some (.row cs e') => bif Nat.beq e' e && Nat.beq (n * sz) cs.length && Nat.beq c n && frzl cs && ones cs && Nat.ble n 1000000 then some (nx, setH nx (.grow (chunk sz n cs) e sz) (delH b h), nx + 1) else none
      | _ => none
    | true => none
  | _ => none
noncomputable def appS (t tx : Nat) (a x : AV) (h : AH) (nx : Nat) : Option Res := match elemT P t with
  | some e => match tsz P e with
    | some sz => match tby P e with
      | some by_ => bif zok P e sz && Nat.blt 0 sz && Nat.blt 0 by_ then match thawS e sz a h nx with
          | some (b, h1, nx1) => match srcS P sz tx x h1 with
            | some (m, news) => match getH b h1 with
              | some (.grow es e' sz') => bif Nat.beq e' e && Nat.beq sz' sz then some ⟨.own b, setH b (.grow (es ++ news) e sz) (scrubH b h1), nx1, some b, some ((es.length + m) * by_ ≤ 140737488355328)⟩ else none
              | _ => none
            | none => none
          | none => none
        else none
      | none => none
    | none => none
  | none => none
end
section
variable {P : Program} {φ : Phi} {B : Bas} {w : World} {h : AH} {nx : Nat}
theorem zok_ok {e sz by_ : Nat} (h1 : zok P e sz = true) (h2 : tsz P e = some sz) (h3 : tby P e = some by_) : ∃ i z, P.info? e = some i ∧ i.zero = some z ∧ z.cells.size = sz ∧ i.size = sz ∧ i.bytes = by_ := by
  obtain ⟨i, hi, hb, hs⟩ := tby_info h3 h2
  unfold zok at h1
  rw [hi] at h1
  simp only at h1
  split at h1
  · rename_i z hz
    exact ⟨i, z, hi, hz, Nat.eq_of_beq_eq_true h1, hs, hb⟩
  · cases h1
theorem owns_form {base size n : Nat} {e : TypeId} {v : Value} {xs : List Value} (h : w.ownsRow base e size v n xs) : ∃ a c, v = .slice a n c := by
  rcases h.2 with ⟨rfl, rfl⟩ | ⟨g, cap, cur, rfl, _⟩ <;> exact ⟨_, _, rfl⟩
theorem thawS_ok {e sz : Nat} {a : AV} {v : Value} {b nx1 : Nat} {h1 : AH} (ht : thawS e sz a h nx = some (b, h1, nx1)) (hsz : 0 < sz) (hv : VR φ a v) (r : Rel B φ h w) (d : Dom φ nx) :
    ∃ φ1, φ.le φ1 ∧ Rel B φ1 h1 w ∧ Dom φ1 nx1 ∧ φ1.s b = some v ∧ φ1.f = φ.f := by
  unfold thawS at ht
  split at ht
  · cases ht
    simp only [VR] at hv
    exact ⟨φ, Phi.le_refl _, r, d, hv.1, rfl⟩
  · cases ht
    simp only [VR] at hv; subst hv
    have hs := (d nx (Nat.le_refl _)).2
    refine ⟨φ.extS nx (.slice none 0 0), Phi.extS_le hs, ?_, d.extS, Phi.extS_same _ _ _, rfl⟩
    refine (r.go (Phi.extS_le hs) (Below.refl _ _) r.fro (fun b o q => .inl q)).add ⟨_, [], Phi.extS_same _ _ _, World.ownsRow_nil w _ _ _, .nil, by simp⟩ fun k hk => ?_
    simp [img, Phi.extS_same, Value.ownBlock] at hk
  · rename_i b' n c op
    split at ht
    · split at ht
      · rename_i cs e' hb
        obtain ⟨h3, h4⟩ := cond_true' (f := none) ht
        cases h4
        simp only [Bool.and_eq_true] at h3
        obtain ⟨⟨⟨⟨⟨c1, c2⟩, c3⟩, c4⟩, c5⟩, c6⟩ := h3
        have := Nat.eq_of_beq_eq_true c1; subst this
        have := Nat.eq_of_beq_eq_true c3; subst this
        have c2' := Nat.eq_of_beq_eq_true c2
        have c6' := ble_of c6
        simp only [VR] at hv
        obtain ⟨y, κ, hφ, hv⟩ := hv
        have hv' : v = .slice (some ⟨y, 0, none⟩) c c := by
          rcases hv with ⟨q, _⟩ | ⟨_, hv⟩
          · cases q
          · exact hv
        subst hv'
        obtain ⟨vs, e1, e2⟩ := r.rowAt hb hφ
        have hl := e2.length
        have hones := e2.ones c5
        obtain ⟨us, k1, k2, k3, k4⟩ := chunk_ok hsz c cs vs.toList (VRl.fz e2 c4) (by omega) c5 hones
        have hi : img φ b' (.row cs e') = some y := by simp [img, hφ]
        have hgf := r.gf b' _ y hb hi
        have hs := (d nx (Nat.le_refl _)).2
        have hown : w.ownsRow 0 e' sz (.slice (some ⟨y, 0, none⟩) c c) c vs.toList := by
          refine ⟨by omega, .inr ⟨y, c, vs, rfl, Nat.zero_le _, e1, Nat.le_refl _, by unfold maxLen; omega, by simp at hl; omega, ?_⟩⟩
          rw [List.take_of_length_le (by omega)]
        refine ⟨φ.extS nx (.slice (some ⟨y, 0, none⟩) c c), Phi.extS_le hs, ?_, d.extS, Phi.extS_same _ _ _, rfl⟩
        have hcl : (chunk sz c cs).length = c := by rw [← k1.length, k2]
        refine ((r.del b').go (Phi.extS_le hs) (Below.refl _ _) r.fro (fun b o q => .inl q)).add ⟨_, us, Phi.extS_same _ _ _, by rw [k4, hcl]; exact hown, k1, fun u hu => ⟨k3 u hu, fun c hc => hones c (by rw [← k4]; exact List.mem_flatMap.2 ⟨u, hu, hc⟩)⟩⟩ fun k hk => ?_
        simp only [img, Phi.extS_same, Value.ownBlock, Option.bind_some, Option.some.injEq] at hk
        subst hk
        refine ⟨hgf.1, hgf.2.1, hgf.2.2, fun c' o' hc' e'' i'' => ?_⟩
        have e3 := get_del e''
        have s : SameO φ (φ.extS nx (.slice (some ⟨y, 0, none⟩) c c)) c' o' := SameO.of_le (Phi.extS_le hs) (r.obj c' o' e3.2)
        rw [s.img] at i''
        exact e3.1 (r.sep c' b' o' _ y e3.2 hb i'' hi)
      · cases ht
    · cases ht
  · cases ht
theorem appS_ok {t tx ty : Nat} {a x : AV} {av xv : Value} {r : Res} (ha : appS P t tx a x h nx = some r) (hC : holds r.C) (hav : VR φ a av) (hxv : VR φ x xv) (rl : Rel B φ h w) (d : Dom φ nx) :
    ∃ φ' w' v, (Builtin.append_ #[t, tx] ty #[av, xv]).run P w = .ok v w' ∧ VR φ' r.a v ∧ Rel B φ' r.h w' ∧ Keeps φ φ' r.k ∧ Dom φ' r.nx := by
  unfold appS at ha
  split at ha
  · rename_i e he
    split at ha
    · rename_i sz hsz
      split at ha
      · rename_i by_ hby
        obtain ⟨h3, h4⟩ : (zok P e sz && Nat.blt 0 sz && Nat.blt 0 by_) = true ∧ _ := by
          cases hq : (zok P e sz && Nat.blt 0 sz && Nat.blt 0 by_) with
          | false => rw [hq] at ha; cases ha
          | true => rw [hq, cond_true] at ha; exact ⟨rfl, ha⟩
        simp only [Bool.and_eq_true] at h3
        obtain ⟨⟨c1, c2⟩, c3⟩ := h3
        have c2' : 0 < sz := by simpa [Nat.blt_eq] using c2
        have c3' : 0 < by_ := by simpa [Nat.blt_eq] using c3
        split at h4
        · rename_i b h1 nx1 hth
          obtain ⟨φ1, hle, r1, d1, hs1, hf1⟩ := thawS_ok hth c2' hav rl d
          split at h4
          · rename_i m news hsrc
            split at h4
            · rename_i es e' sz' hb
              obtain ⟨h5, h6⟩ := cond_true' (f := none) h4
              subst h6
              simp only [Bool.and_eq_true] at h5
              have := Nat.eq_of_beq_eq_true h5.1; subst this
              have := Nat.eq_of_beq_eq_true h5.2; subst this
              obtain ⟨us, vs, q1, q2, q3, q4, q5⟩ := srcS_ok hsrc (hxv.mono hle) r1
              obtain ⟨v0, vs0, p1, p2, p3, p4⟩ := r1.obj b _ hb
              rw [hs1] at p1; cases p1
              obtain ⟨i, z, hi, hz, hzs, his, hib⟩ := zok_ok c1 hsz hby
              have hC' : (es.length + m) * by_ ≤ 140737488355328 := hC
              have hsm : es.length + m ≤ 9223372036854775807 := by
                have : (es.length + m) * 1 ≤ (es.length + m) * by_ := Nat.mul_le_mul_left _ c3'
                omega
              subst his hib
              obtain ⟨v', w', g1, g2, g3, g4⟩ := run_append_src (P := P) (ty := ty) w (elemT_u he) hi hz hzs c2' p2 q1 hsm hC' (Nat.zero_le _)
              have hlen : (es ++ news).length = es.length + m := by rw [List.length_append, ← q2.length, q3]
              have hat : At B (φ1.extS b v') w' b (.grow (es ++ news) e' i.size) := by
                refine ⟨v', vs0 ++ vs, Phi.extS_same _ _ _, ?_, p3.append q2, fun u hu => ?_⟩
                · rw [hlen, List.flatMap_append, ← q4]; exact g2
                · rcases List.mem_append.1 hu with hu | hu
                  · exact p4 u hu
                  · exact q5 u hu
              obtain ⟨ad, cc, hform⟩ := owns_form g2
              refine ⟨φ1.extS b v', w', v', g1, by simp only [VR]; exact ⟨Phi.extS_same _ _ _, ad, _, cc, hform⟩, r1.grown hb hs1 (Phi.extS_turn _ _ _) (Phi.extS_same _ _ _) rfl g3 g4 (fun k hk => (g2.lt k hk).2) hat, ⟨hf1, fun a u k => scrub_turn (Phi.extS_turn _ _ _) (k.mono hle), hle.m⟩, fun c hc => ⟨(d1 c hc).1, ?_⟩⟩
              show (if c = b then _ else _) = _
              rw [if_neg (by rintro rfl; rw [(d1 c hc).2] at hs1; cases hs1)]
              exact (d1 c hc).2
            · cases h4
          · cases h4
        · cases h4
      · cases ha
    · cases ha
  · cases ha
end
end Sv
end Go.Proofs.YthhacfehjgfpbaaDoor
end
section
namespace Go.Proofs.YthhacfehjgfpbaaDoor
open Go Go.RowKit
set_option linter.unusedSimpArgs false
set_option linter.unusedVariables false
namespace Sv
abbrev Fr := List (Nat × AV)
noncomputable def look (t : Nat) : Fr → Option AV
  | [] => none
  | (k, a) :: r => bif Nat.beq k t then some a else look t r
noncomputable def setL (t : Nat) (a : AV) : Fr → Fr
  | [] => [(t, a)]
  | (k, x) :: r => bif Nat.beq k t then (k, a) :: r else (k, x) :: setL t a r
theorem look_set_same (t : Nat) (a : AV) : ∀ s : Fr, look t (setL t a s) = some a
  | [] => by simp only [setL, look, Nat.beq_refl, cond_true]
  | (k, x) :: r => by
    rcases beq_cases k t with ⟨e, _⟩ | ⟨e, _⟩ <;> simp only [setL, e, cond_true, cond_false, look]
    exact look_set_same t a r
theorem look_set_other {t u : Nat} (a : AV) (hne : u ≠ t) : ∀ s : Fr, look u (setL t a s) = look u s
  | [] => by simp only [setL, look, beq_false (Ne.symm hne), cond_false]
  | (k, x) :: r => by
    rcases beq_cases k t with ⟨e, h1⟩ | ⟨e, _⟩
    · subst h1; simp only [setL, Nat.beq_refl, cond_true, look, beq_false (Ne.symm hne), cond_false]
    · simp only [setL, e, cond_false, look, look_set_other a hne r]
noncomputable def mapL (f : AV → AV) : Fr → Fr
  | [] => []
  | (k, a) :: r => (k, f a) :: mapL f r
theorem look_map (f : AV → AV) (t : Nat) : ∀ s : Fr, look t (mapL f s) = (look t s).map f
  | [] => rfl
  | (k, x) :: r => by
    simp only [mapL, look]
    rcases beq_cases k t with ⟨e, _⟩ | ⟨e, _⟩ <;> simp only [e, cond_true, cond_false, Option.map_some, look_map f t r]
noncomputable def evA (s : Fr) : Operand → Option AV
  | .tmp t => look t s
  | .const v => ofV v
  | .func f => some (.fn f [] [])
  | .global _ => none
def FRel (φ : Phi) (n : Nat) (s : Fr) (σ : Nat → Value) : Prop := ∀ t a, look t s = some a → VR φ a (sl n σ t)
theorem FRel.ev {φ : Phi} {n : Nat} {s : Fr} {σ : Nat → Value} (r : FRel φ n s σ) : EVR φ (evA s) (ev n σ) := by
  intro x a h
  cases x with
  | tmp t => exact r t a h
  | const v => exact ofV_VR h
  | func f =>
    simp only [evA, Option.some.injEq] at h; subst h
    simp only [VR, Go.Proofs.YthhacfehjgfpbaaDoor.ev]; exact ⟨[], [], .nil, .nil, rfl⟩
  | global g => cases h
noncomputable def cleanF (k : Option Nat) (s : Fr) : Fr := match k with
  | none => s
  | some b => mapL (scrub b) s
theorem FRel.keeps {φ φ' : Phi} {k : Option Nat} {n : Nat} {s : Fr} {σ : Nat → Value} (r : FRel φ n s σ) (hk : Keeps φ φ' k) : FRel φ' n (cleanF k s) σ := by
  intro t a h
  cases k with
  | none => exact hk.2.1 _ _ (r t a h)
  | some b =>
    simp only [cleanF, look_map] at h
    obtain ⟨a0, h1, rfl⟩ := Option.map_eq_some_iff.1 h
    exact hk.2.1 _ _ (r t a0 h1)
noncomputable def putF (n : Nat) (dst : Option Nat) (a : AV) (s : Fr) : Option Fr := match dst with
  | none => some s
  | some d => bif Nat.blt d n then some (setL d a s) else none
theorem sl_upd {n d t : Nat} {σ : Nat → Value} {v : Value} (hd : d < n) : sl n (upd σ d v) t = if t = d then v else sl n σ t := by
  unfold sl upd
  by_cases h : t = d
  · subst h
    have : Nat.blt t n = true := by simpa [Nat.blt_eq] using hd
    simp [this]
  · have : Nat.beq t d = false := beq_false h
    simp [this, h]
theorem FRel.put {φ : Phi} {n : Nat} {s s' : Fr} {σ : Nat → Value} {dst : Option Nat} {a : AV} {v : Value} (r : FRel φ n s σ) (h : putF n dst a s = some s') (hv : VR φ a v) : FRel φ n s' (updo σ dst v) := by
  cases dst with
  | none => cases h; exact r
  | some d =>
    unfold putF at h
    obtain ⟨h1, h2⟩ := cond_true' (f := none) h
    subst h2
    have hd : d < n := by simpa [Nat.blt_eq] using h1
    intro t b hb
    simp only [updo]
    rw [sl_upd hd]
    by_cases ht : t = d
    · subst ht; rw [look_set_same] at hb; cases hb; rw [if_pos rfl]; exact hv
    · rw [look_set_other _ ht] at hb; rw [if_neg ht]; exact r t b hb
section
variable (P : Program) (eA : Operand → Option AV)
noncomputable def roS (o : Oper) (h : AH) : PC := match pureC P eA o with
  | some r => some r
  | none => match o.op with
    | .load t x => match eA x with
      | some a => match loadS P t a h with
        | some r => some (r, none)
        | none => none
      | none => none
    | .call c => match c.callee with
      | .builtin .len => match c.args.toList, c.argTypes.toList with
        | [x], [t] => match eA x with
          | some (.own b) => match elemT P t with
            | some _ => match getH b h with
              | some (.grow es _ _) => some (.int .i64 (es.length : Int), none)
              | _ => none
            | none => none
          | _ => none
        | _, _ => none
      | _ => none
    | _ => none
noncomputable def appO (c : Call) (h : AH) (nx : Nat) : Option Res := match c.callee with
  | .builtin .append => match c.args.toList, c.argTypes.toList with
    | [x, y], [t, u] => match eA x with
      | some a => match eA y with
        | some b => appS P t u a b h nx
        | none => none
      | none => none
    | _, _ => none
  | _ => none
noncomputable def opS (o : Oper) (h : AH) (nx : Nat) : Option Res := match roS P eA o h with
  | some r => some ⟨r.1, h, nx, none, r.2⟩
  | none => match o.op with
    | .store t x y => match eA x with
      | some a => match eA y with
        | some b => match storeS P t a b h with
          | some h' => some ⟨.tup [], h', nx, none, none⟩
          | none => none
        | none => none
      | none => none
    | .call c => appO P eA c h nx
    | _ => match newA P eA o with
      | some (k, ao) => some ⟨k.av nx, setH nx ao h, nx + 1, none, none⟩
      | none => none
end
section
variable {P : Program} {eA : Operand → Option AV} {φ : Phi} {B : Bas} {w : World} {h : AH} {nx n : Nat} {σ : Nat → Value}
theorem undef_VR : VR φ (.tup []) undef := by simp only [VR]; exact ⟨[], .nil, rfl⟩
theorem roS_ok (hev : EVR φ eA (ev n σ)) {o : Oper} {a : AV} {C : Option Prop} (ho : roS P eA o h = some (a, C)) (hC : holds C) (r : Rel B φ h w) : ∃ v, (execOp (ev n σ) o).run P w = .ok (.value v) w ∧ VR φ a v := by
  unfold roS at ho
  split at ho
  · rename_i q hq
    cases ho
    obtain ⟨v, h1, h2⟩ := pureC_ok hev hq hC
    exact ⟨v, h1 w, h2⟩
  · obtain ⟨dst, op, ty, ps, af, g⟩ := o
    split at ho
    · rename_i t x hop
      simp only at hop; subst hop
      split at ho
      · rename_i a' ha
        split at ho
        · rename_i q hq
          cases ho
          obtain ⟨v, h1, h2⟩ := loadS_ok hq (hev _ _ ha) r
          exact ⟨v, by simp only [execOp, Sem.run_bind, h1, Result.andThen_ok, Sem.run_pure], h2⟩
        · cases ho
      · cases ho
    · rename_i c hop
      simp only at hop; subst hop
      split at ho
      · rename_i hcal
        split at ho
        · rename_i x t hargs htys
          split at ho
          · rename_i b hb
            split at ho
            · rename_i e he
              split at ho
              · rename_i es e' sz hg
                cases ho
                have hx := hev _ _ hb
                simp only [VR] at hx
                obtain ⟨v, vs, q1, q2, q3, q4⟩ := r.obj b _ hg
                rw [hx.1] at q1
                obtain ⟨cal, args, tys⟩ := c
                simp only at hcal hargs htys
                subst hcal
                have ha : args = #[x] := by apply Array.ext'; simpa using hargs
                have ht : tys = #[t] := by apply Array.ext'; simpa using htys
                subst ha ht
                refine ⟨_, ?_, V_int⟩
                have hform : ev n σ x = v := Option.some.inj q1
                rcases q2.2 with ⟨hv, hn⟩ | ⟨gg, cap, cur, hv, _⟩
                · rw [hn]; simp [execOp, resolve, invoke, builtin, Builtin.len_, hform, hv, run_underlying (elemT_u he), go_sem, goInt]
                · simp [execOp, resolve, invoke, builtin, Builtin.len_, hform, hv, run_underlying (elemT_u he), go_sem, goInt]
              · cases ho
            · cases ho
          · cases ho
        · cases ho
      · cases ho
    · cases ho
theorem opS_ok (hev : EVR φ eA (ev n σ)) {o : Oper} {r : Res} (ho : opS P eA o h nx = some r) (rl : Rel B φ h w) (d : Dom φ nx) : OpOK P B φ w (ev n σ) o r := by
  intro hC
  unfold opS at ho
  split at ho
  · rename_i q hq
    cases ho
    obtain ⟨v, h1, h2⟩ := roS_ok hev (C := q.2) hq hC rl
    exact ⟨φ, w, v, .inl h1, h2, rl, Keeps.of_le (Phi.le_refl _), d⟩
  · have newcase : ∀ {k : NK} {ao : AO}, newA P eA o = some (k, ao) → r = ⟨k.av nx, setH nx ao h, nx + 1, none, none⟩ → ∃ φ' w' v, Run1 P (ev n σ) o w v w' ∧ VR φ' r.a v ∧ Rel B φ' r.h w' ∧ Keeps φ φ' r.k ∧ Dom φ' r.nx := by
      intro k ao hn e
      subst e
      obtain ⟨hng, ob, h1, h2⟩ := newA_ok hev hn
      have hnx := (d nx (Nat.le_refl _)).1
      have hle := Phi.ext_le (x := w.heap.size) hnx
      exact ⟨φ.ext nx w.heap.size, w.alloc ob, _, .inl (h2 w), NK.vr (Phi.ext_same _ _ _), rl.alloc hnx hng (h1 B _ _ nx _ hle (Phi.ext_same _ _ _) (heap_alloc_new w ob)), Keeps.of_le hle, d.ext⟩
    split at ho
    · rename_i t x y hop
      split at ho
      · rename_i a ha
        split at ho
        · rename_i b hb
          split at ho
          · rename_i h' hs
            cases ho
            obtain ⟨w', h1, h2⟩ := storeS_ok hs (hev _ _ ha) (hev _ _ hb) rl
            refine ⟨φ, w', undef, .inr ⟨?_, rfl⟩, undef_VR, h2, Keeps.of_le (Phi.le_refl _), d⟩
            obtain ⟨dst, op, ty, ps, af, g⟩ := o
            simp only at hop; subst hop
            exact run_u h1
          · cases ho
        · cases ho
      · cases ho
    · rename_i c hop
      unfold appO at ho
      split at ho
      · rename_i hcal
        split at ho
        · rename_i x y t u hargs htys
          split at ho
          · rename_i a ha
            split at ho
            · rename_i b hb
              obtain ⟨φ', w', v, g1, g2, g3, g4, g5⟩ := appS_ok (ty := o.type) ho hC (hev _ _ ha) (hev _ _ hb) rl d
              refine ⟨φ', w', v, .inl ?_, g2, g3, g4, g5⟩
              obtain ⟨dst, op, ty, ps, af, g⟩ := o
              simp only at hop; subst hop
              obtain ⟨cal, args, tys⟩ := c
              simp only at hcal hargs htys
              subst hcal
              have ha' : args = #[x, y] := by apply Array.ext'; simpa using hargs
              have ht' : tys = #[t, u] := by apply Array.ext'; simpa using htys
              subst ha' ht'
              simp only [execOp, resolve, invoke, builtin, Sem.run_bind, Sem.run_pure, Result.andThen_ok, List.map_toArray, List.map_cons, List.map_nil, g1]
            · cases ho
          · cases ho
        · cases ho
      · cases ho
    · split at ho
      · rename_i k ao hn
        cases ho
        exact newcase hn rfl
      · cases ho
end
structure St where
  s : Fr
  h : AH
  nx : Nat
noncomputable def inL (d : Option Nat) : List Nat → Bool
  | [] => false
  | x :: r => match d with
    | some y => Nat.beq x y || inL d r
    | none => false
noncomputable def hasT (t : Nat) : List Operand → Bool
  | [] => false
  | .tmp u :: l => Nat.beq u t || hasT t l
  | _ :: l => hasT t l
noncomputable def strip (l : List Operand) (e : Operand → Option AV) (x : Operand) : Option AV := match e x with
  | some (.cond _ a) => (match x with
    | .tmp t => bif hasT t l then some a else e x
    | _ => none)
  | r => r
noncomputable def opnds : Op → List Operand
  | .pick c _ _ => [c]
  | o => o.operands.toList
noncomputable def needs (e : Operand → Option AV) : List Operand → Option Prop
  | [] => none
  | x :: l => match e x with
    | some (.cond q _) => andC (some (q = true)) (needs e l)
    | _ => needs e l
noncomputable def wantOf (want q : Bool) : Bool := bif want then q else !q
noncomputable def gval (want : Bool) : Option AV → Option Bool
  | some (.bool q) => some (wantOf want q)
  | some (.cond q' (.bool q)) => some (q' && wantOf want q)
  | some (.tup []) => some false
  | _ => none
noncomputable def stepS (P : Program) (n : Nat) (ops : Array Oper) (lz : List Nat) (o : Oper) (x : St) : Option (St × Option Prop) :=
  let run : Option (St × Option Prop) := match opS P (evA x.s) o x.h x.nx with
    | some r => match putF n o.dst r.a (cleanF r.k x.s) with
      | some s' => some (⟨s', r.h, r.nx⟩, r.C)
      | none => none
    | none => none
  match o.guard with
  | none => run
  | some (j, want) => match gdst ops.toList j with
    | some t => match gval want (look t x.s) with
      | some q => bif inL o.dst lz then (match roS P (strip (opnds o.op) (evA x.s)) o x.h with
          | some (a, C) => match putF n o.dst (.cond q a) x.s with
            | some s' => some (⟨s', x.h, x.nx⟩, match andC (needs (evA x.s) (opnds o.op)) C with
              | some p => some (q = true → p)
              | none => none)
            | none => none
          | none => none) else (bif q then run else match putF n o.dst (.tup []) x.s with
            | some s' => some (⟨s', x.h, x.nx⟩, none)
            | none => none)
      | _ => none
    | none => none
noncomputable def opsS (P : Program) (n : Nat) (ops : Array Oper) (lz : List Nat) : List Oper → St → Option (St × Option Prop)
  | [], x => some (x, none)
  | o :: l, x => match stepS P n ops lz o x with
    | some (y, C) => match opsS P n ops lz l y with
      | some (z, D) => some (z, andC C D)
      | none => none
    | none => none
end Sv
end Go.Proofs.YthhacfehjgfpbaaDoor
end
section
namespace Go.Proofs.YthhacfehjgfpbaaDoor
open Go Go.RowKit
set_option linter.unusedSimpArgs false
set_option linter.unusedVariables false
namespace Sv
structure Cx where
  f : Nat → Option Obj
  m : Nat → Option (Nat × Nat)
  lo : Nat
  hm : ∀ b x, m b = some x → b < lo
structure Holds (B : Bas) (F : Cx) (n : Nat) (x : St) (φ : Phi) (σ : Nat → Value) (w : World) : Prop where
  fr : FRel φ n x.s σ
  rel : Rel B φ x.h w
  dom : Dom φ x.nx
  old : ∀ b o, F.f b = some o → φ.f b = some o
  new : ∀ b o, φ.f b = some o → F.f b = some o ∨ ¬ B.old b
  base : ∀ b x, F.m b = some x → φ b = some x
section
variable {P : Program} {B : Bas} {w : World} {F : Cx} {n : Nat} {φ : Phi} {σ : Nat → Value} {ops : Array Oper} {Q : Exit → (Nat → Value) → World → Prop} {rest : List Oper}
theorem needs_ok {e : Operand → Option AV} : ∀ {l : List Operand}, holds (needs e l) → ∀ {t : Nat} {q : Bool} {a : AV}, hasT t l = true → e (.tmp t) = some (.cond q a) → q = true
  | [], _, _, _, _, h, _ => by cases h
  | x :: l, hn, t, q, a, h, he => by
    have hn' : holds (needs e l) := by
      unfold needs at hn
      split at hn
      · exact (andC_holds hn).2
      · exact hn
    cases x with
    | tmp u =>
      simp only [hasT, Bool.or_eq_true] at h
      rcases h with h | h
      · have := Nat.eq_of_beq_eq_true h; subst this
        unfold needs at hn
        rw [he] at hn
        exact (andC_holds hn).1
      · exact needs_ok hn' h he
    | _ => exact needs_ok hn' h he
theorem strip_ev {s : Fr} {l : List Operand} (hr : FRel φ n s σ) (hn : holds (needs (evA s) l)) : EVR φ (strip l (evA s)) (ev n σ) := by
  intro x a h
  unfold strip at h
  split at h
  · rename_i q b hb
    split at h
    · rename_i t
      cases h1 : hasT t l with
      | true =>
        rw [h1, cond_true] at h
        cases h
        exact (hr.ev _ _ hb).condT (needs_ok hn h1 hb)
      | false => rw [h1, cond_false] at h; exact hr.ev _ _ h
    · cases h
  · exact hr.ev _ _ h
theorem gval_ok {s : Fr} {t : Nat} {want r : Bool} (hr : FRel φ n s σ) (h : gval want (look t s) = some r) : isB want (sl n σ t) = r := by
  unfold gval at h
  split at h
  · rename_i q hq
    cases h
    have := hr _ _ hq
    simp only [VR] at this
    rw [this]; simp only [isB, wantOf]
  · rename_i q' q hq
    cases h
    have := hr _ _ hq
    simp only [VR] at this
    cases q' with
    | true => rw [this.1 rfl]; simp only [isB, wantOf, Bool.true_and]
    | false => rw [this.2 rfl rfl]; rfl
  · rename_i hq
    cases h
    have := hr _ _ hq
    simp only [VR] at this
    obtain ⟨vs, h1, h2⟩ := this
    rw [h2, h1.nil_inv]; rfl
  · cases h
theorem step_run {o : Oper} {x y : St} {C : Option Prop} (hx : Holds B F n x φ σ w) (hg : gOk ops n σ o.guard = true)
    (hs : (match opS P (evA x.s) o x.h x.nx with | some r => (match putF n o.dst r.a (cleanF r.k x.s) with | some s' => some ((⟨s', r.h, r.nx⟩ : St), r.C) | none => none) | none => none) = some (y, C)) (hC : holds C)
    (next : ∀ φ' σ' w', Holds B F n y φ' σ' w' → φ'.f = φ.f → WO P n ops rest Q σ' w') : WO P n ops (o :: rest) Q σ w := by
  split at hs
  · rename_i r hr
    split at hs
    · rename_i s' hp
      cases hs
      obtain ⟨φ', w', v, h1, h2, h3, h4, h5⟩ := opS_ok hx.fr.ev hr hx.rel hx.dom hC
      have hh : Holds B F n ⟨s', r.h, r.nx⟩ φ' (updo σ o.dst v) w' := ⟨(hx.fr.keeps h4).put hp h2, h3, h5, fun b o q => by rw [h4.1]; exact hx.old b o q, fun b o q => by rw [h4.1] at q; exact hx.new b o q, fun b o q => h4.2.2 _ _ (hx.base b o q)⟩
      rcases h1 with h1 | ⟨h1, rfl⟩
      · exact WO_val hg h1 (next _ _ _ hh h4.1)
      · exact WO_unit hg h1 (next _ _ _ hh h4.1)
    · cases hs
  · cases hs
theorem stepS_ok {lz : List Nat} {o : Oper} {x y : St} {C : Option Prop} (hx : Holds B F n x φ σ w) (hs : stepS P n ops lz o x = some (y, C)) (hC : holds C)
    (next : ∀ φ' σ' w', Holds B F n y φ' σ' w' → φ'.f = φ.f → WO P n ops rest Q σ' w') : WO P n ops (o :: rest) Q σ w := by
  unfold stepS at hs
  simp only at hs
  cases hgd : o.guard with
  | none =>
    rw [hgd] at hs
    exact step_run hx (by rw [hgd]; rfl) hs hC next
  | some g =>
    obtain ⟨j, want⟩ := g
    rw [hgd] at hs
    simp only at hs
    split at hs
    · rename_i t ht
      split at hs
      · rename_i q hq
        have hgk : gOk ops n σ o.guard = q := by
          rw [hgd]; simp only [gOk, ht]; exact gval_ok hx.fr hq
        cases hlz : inL o.dst lz with
        | true =>
          rw [hlz, cond_true] at hs
          split at hs
          · rename_i a C' hro
            split at hs
            · rename_i s' hp
              cases hs
              cases hw : q with
              | false =>
                refine WO_pass (by rw [hgk, hw]) (next φ _ w ⟨hx.fr.put hp (by rw [hw]; exact V_condF), hx.rel, hx.dom, hx.old, hx.new, hx.base⟩ rfl)
              | true =>
                have hC' : holds (andC (needs (evA x.s) (opnds o.op)) C') := by
                  revert hC
                  cases andC (needs (evA x.s) (opnds o.op)) C' with
                  | none => intro _; trivial
                  | some p => intro h; exact h hw
                obtain ⟨c1, c2⟩ := andC_holds hC'
                obtain ⟨v, h1, h2⟩ := roS_ok (strip_ev hx.fr c1) hro c2 hx.rel
                exact WO_val (by rw [hgk, hw]) h1 (next φ _ w ⟨hx.fr.put hp (by rw [hw]; exact V_condT h2), hx.rel, hx.dom, hx.old, hx.new, hx.base⟩ rfl)
            · cases hs
          · cases hs
        | false =>
          rw [hlz, cond_false] at hs
          cases hw : q with
          | true =>
            rw [hw, cond_true] at hs
            exact step_run hx (by rw [hgk, hw]) hs hC next
          | false =>
            rw [hw, cond_false] at hs
            split at hs
            · rename_i s' hp
              cases hs
              exact WO_pass (by rw [hgk, hw]) (next φ _ w ⟨hx.fr.put hp undef_VR, hx.rel, hx.dom, hx.old, hx.new, hx.base⟩ rfl)
            · cases hs
      · cases hs
    · cases hs
theorem opsS_ok {lz : List Nat} : ∀ {l : List Oper} {x y : St} {C : Option Prop} {φ : Phi} {σ : Nat → Value} {w : World}, Holds B F n x φ σ w → opsS P n ops lz l x = some (y, C) → holds C →
    (∀ φ' σ' w', Holds B F n y φ' σ' w' → φ'.f = φ.f → WO P n ops rest Q σ' w') → WO P n ops (l ++ rest) Q σ w
  | [], x, y, C, φ, σ, w, hx, hs, hC, next => by
    cases hs; exact next _ _ _ hx rfl
  | o :: l, x, y, C, φ, σ, w, hx, hs, hC, next => by
    unfold opsS at hs
    split at hs
    · rename_i z C1 h1
      split at hs
      · rename_i u C2 h2
        cases hs
        obtain ⟨c1, c2⟩ := andC_holds hC
        exact stepS_ok (rest := l ++ rest) hx h1 c1 fun φ' σ' w' hh e1 => opsS_ok hh h2 c2 fun φ'' σ'' w'' hh' e2 => next φ'' σ'' w'' hh' (e2.trans e1)
      · cases hs
    · cases hs
end
end Sv
end Go.Proofs.YthhacfehjgfpbaaDoor
end
section
namespace Go.Proofs.YthhacfehjgfpbaaDoor
open Go Go.RowKit
set_option linter.unusedSimpArgs false
set_option linter.unusedVariables false
namespace Sv
def conc (B : Bas) (F : Cx) (n : Nat) (K : Exit → St → Prop) : Exit → (Nat → Value) → World → Prop := fun e σ w => ∃ x φ, Holds B F n x φ σ w ∧ K e x
def SO (P : Program) (n : Nat) (ops : Array Oper) (l : List Oper) (B : Bas) (F : Cx) (K : Exit → St → Prop) (x : St) : Prop := ∀ φ σ w, Holds B F n x φ σ w → WO P n ops l (conc B F n K) σ w
def SW (P : Program) (n : Nat) (c : Code) (B : Bas) (F : Cx) (K : Exit → St → Prop) (x : St) : Prop := ∀ φ σ w, Holds B F n x φ σ w → W P n c (conc B F n K) σ w
def seqK (k : St → Prop) (K : Exit → St → Prop) : Exit → St → Prop
  | .normal, x => k x
  | e, x => K e x
def blockK (id : Nat) (K : Exit → St → Prop) : Exit → St → Prop
  | .exit i, x => bif Nat.beq i id then K .normal x else K (.exit i) x
  | e, x => K e x
noncomputable def selS : List Nat → Fr → Option Fr
  | [], _ => some []
  | t :: ts, s => match look t s with
    | some a => match selS ts s with
      | some r => some ((t, a) :: r)
      | none => none
    | none => none
theorem look_sel {s : Fr} : ∀ {ts : List Nat} {r : Fr}, selS ts s = some r → ∀ t a, look t r = some a → look t s = some a
  | [], _, h, _, _, k => by cases h; cases k
  | u :: ts, _, h, t, a, k => by
    unfold selS at h
    split at h
    · rename_i b hb
      split at h
      · rename_i r' hr
        cases h
        simp only [look] at k
        rcases beq_cases u t with ⟨e, h1⟩ | ⟨e, _⟩ <;> rw [e] at k
        · cases k; rw [← h1]; exact hb
        · exact look_sel hr t a k
      · cases h
    · cases h
section
variable {P : Program} {B : Bas} {w : World} {F : Cx} {n : Nat} {φ : Phi} {σ : Nat → Value} {K : Exit → St → Prop} {x : St}
theorem Holds.sel {s : Fr} {ts : List Nat} (h : Holds B F n x φ σ w) (k : selS ts x.s = some s) : Holds B F n ⟨s, x.h, x.nx⟩ φ σ w := ⟨fun t a e => h.fr t a (look_sel k t a e), h.rel, h.dom, h.old, h.new, h.base⟩
theorem conc_mono {K' : Exit → St → Prop} (hk : ∀ e y, K e y → K' e y) {e : Exit} (h : conc B F n K e σ w) : conc B F n K' e σ w := by
  obtain ⟨y, φ, h1, h2⟩ := h; exact ⟨y, φ, h1, hk _ _ h2⟩
theorem SW_mono {c : Code} {K' : Exit → St → Prop} (h : SW P n c B F K x) (hk : ∀ e y, K e y → K' e y) : SW P n c B F K' x := fun φ σ w hx => W_mono (h φ σ w hx) fun e σ w => conc_mono hk
theorem SW_seq {c d : Code} (h : SW P n c B F (seqK (SW P n d B F K) K) x) : SW P n (.seq c d) B F K x := by
  intro φ σ w hx
  refine W_seq (W_mono (h φ σ w hx) ?_)
  rintro e σ' w' ⟨y, φ', h1, h2⟩
  cases e <;> first | exact h2 φ' σ' w' h1 | exact ⟨y, φ', h1, h2⟩
theorem SW_skip (h : K .normal x) : SW P n .skip B F K x := fun φ σ w hx => W_skip ⟨x, φ, hx, h⟩
theorem SW_ret (h : K .ret x) : SW P n .ret B F K x := fun φ σ w hx => W_ret ⟨x, φ, hx, h⟩
theorem SW_block {id : Nat} {c : Code} (h : SW P n c B F (blockK id K) x) : SW P n (.block id c) B F K x := by
  intro φ σ w hx
  refine W_block (W_mono (h φ σ w hx) ?_)
  rintro e σ' w' ⟨y, φ', h1, h2⟩
  cases e with
  | exit i =>
    simp only [blockK] at h2
    simp only [blockQ]
    rcases beq_cases i id with ⟨q, _⟩ | ⟨q, _⟩ <;> rw [q] at h2 ⊢ <;> exact ⟨y, φ', h1, h2⟩
  | _ => exact ⟨y, φ', h1, h2⟩
theorem SW_cond {o : Operand} {c d : Code} {q : Bool} (hq : evA x.s o = some (.bool q)) (ht : q = true → SW P n c B F K x) (hf : q = false → SW P n d B F K x) : SW P n (.cond o c d) B F K x := by
  intro φ σ w hx
  have := hx.fr.ev _ _ hq
  simp only [VR] at this
  exact W_cond this (fun h => ht h φ σ w hx) (fun h => hf h φ σ w hx)
theorem SW_if {o : Operand} {c d : Code} {p : Prop} [Decidable p] (hq : evA x.s o = some (.bool (decide p))) (ht : p → SW P n c B F K x) (hf : ¬ p → SW P n d B F K x) : SW P n (.cond o c d) B F K x :=
  SW_cond hq (fun h => ht (of_decide_eq_true h)) (fun h => hf (of_decide_eq_false h))
theorem SW_cut {c d : Code} (J : St → Prop) (h : SW P n c B F (seqK J K) x) (r : ∀ y, J y → SW P n d B F K y) : SW P n (.seq c d) B F K x := by
  refine SW_seq (SW_mono h ?_)
  intro e y k
  cases e <;> first | exact k | exact r y k
theorem SW_reg {id : Nat} {l : List Oper} (h : SO P n l.toArray l B F K x) : SW P n (.region id l.toArray false) B F K x := fun φ σ w hx => W_reg (h φ σ w hx)
theorem SO_nil {ops : Array Oper} (h : K .normal x) : SO P n ops [] B F K x := fun φ σ w hx => WO_nil ⟨x, φ, hx, h⟩
noncomputable def runS (P : Program) (n : Nat) (ops : Array Oper) (lz ts : List Nat) (l : List Oper) (x : St) : Option (St × Option Prop) := match opsS P n ops lz l x with
  | some (y, C) => match selS ts y.s with
    | some s => some (⟨s, y.h, y.nx⟩, C)
    | none => none
  | none => none
theorem SO_run {ops : Array Oper} {l : List Oper} {y : St} {C : Option Prop} (k : Nat) (lz ts : List Nat) (h : runS P n ops lz ts (l.take k) x = some (y, C)) (hC : holds C) (next : SO P n ops (l.drop k) B F K y) : SO P n ops l B F K x := by
  intro φ σ w hx
  unfold runS at h
  split at h
  · rename_i z C' hz
    split at h
    · rename_i s hs
      cases h
      have := opsS_ok (rest := l.drop k) (Q := conc B F n K) hx hz hC (fun φ' σ' w' hh _ => next φ' σ' w' (hh.sel hs))
      rw [List.take_append_drop] at this
      exact this
    · cases h
  · cases h
theorem SO_all {ops : Array Oper} {l : List Oper} {y : St} {C : Option Prop} (lz ts : List Nat) (h : runS P n ops lz ts l x = some (y, C)) (hC : holds C) (next : K .normal y) : SO P n ops l B F K x := by
  refine SO_run l.length lz ts (by rw [List.take_length]; exact h) hC ?_
  rw [List.drop_length]; exact SO_nil next
end
def Fro (F : Nat → Option Obj) (w : World) : Prop := ∀ b o, F b = some o → w.heap[b]? = some o
def ofF (F : Nat → Option Obj) : Phi := ⟨fun _ => none, fun _ => none, F⟩
def FnV (P : Program) (f : Nat) (al : List AV) (r : AV) : Prop := ∀ (F : Nat → Option Obj) (w : World) (vs : List Value), Fro F w → VRl (ofF F) al vs → Calls P f vs.toArray w (Ret fun v w' => Below w.heap.size w w' ∧
  ∃ F', (∀ b o, F b = some o → F' b = some o) ∧ Fro F' w' ∧ (∀ b o, F' b = some o → F b = some o ∨ w.heap.size ≤ b) ∧ VR (ofF F') r v)
noncomputable def evsA (e : Operand → Option AV) : List Operand → Option (List AV)
  | [] => some []
  | x :: l => match e x with
    | some a => match evsA e l with
      | some r => some (a :: r)
      | none => none
    | none => none
theorem evsA_ok {φ : Phi} {e : Operand → Option AV} {ρ : Operand → Value} (hev : EVR φ e ρ) : ∀ {l : List Operand} {r : List AV}, evsA e l = some r → VRl φ r (l.map ρ)
  | [], _, h => by cases h; exact .nil
  | x :: l, _, h => by
    unfold evsA at h
    split at h
    · rename_i a ha
      split at h
      · rename_i r hr; cases h; exact .cons (hev _ _ ha) (evsA_ok hev hr)
      · cases h
    · cases h
noncomputable def guardS (ops : Array Oper) (s : Fr) : Option (Nat × Bool) → Bool
  | none => true
  | some (j, want) => match gdst ops.toList j with
    | some t => match look t s with
      | some (.bool q) => wantOf want q
      | _ => false
    | none => false
section
variable {P : Program} {B : Bas} {w : World} {F : Cx} {n : Nat} {φ : Phi} {σ : Nat → Value} {K : Exit → St → Prop} {x : St}
theorem guardS_ok {ops : Array Oper} {g : Option (Nat × Bool)} (h : FRel φ n x.s σ) (k : guardS ops x.s g = true) : gOk ops n σ g = true := by
  cases g with
  | none => rfl
  | some g =>
    obtain ⟨j, want⟩ := g
    unfold guardS at k
    unfold gOk
    simp only at k ⊢
    split at k
    · rename_i t ht
      split at k
      · rename_i q hq
        have := h _ _ hq
        simp only [VR] at this
        rw [ht]; simp only [this, isB]; exact k
      · cases k
    · cases k
theorem Holds.called {w' : World} {F' : Nat → Option Obj} (hx : Holds B F n x φ σ w) (hb : Below w.heap.size w w') (h1 : ∀ b o, φ.f b = some o → F' b = some o) (h2 : Fro F' w') (h3 : ∀ b o, F' b = some o → φ.f b = some o ∨ w.heap.size ≤ b) :
    Holds B F n x ⟨φ.m, φ.s, F'⟩ σ w' := by
  have hle : φ.le ⟨φ.m, φ.s, F'⟩ := ⟨fun _ _ e => e, fun _ _ e => e, h1⟩
  exact ⟨fun t a e => (hx.fr t a e).mono hle, hx.rel.go hle hb h2 h3, hx.dom, fun b o e => h1 _ _ (hx.old b o e), fun b o e => (h3 b o e).elim (hx.new b o) (fun q => .inr (fun k => Nat.lt_irrefl _ (Nat.lt_of_lt_of_le (hx.rel.below.lt k) q))), hx.base⟩
theorem SO_call {ops : Array Oper} {rest : List Oper} {f : FuncId} {ar : Array Operand} {ts : Array TypeId} {ty : TypeId} {ps : String} {dst : Option Tmp} {af : Array Edge} {g : Option (Nat × Bool)} {al : List AV} {r : AV} {s' : Fr}
    (hg : guardS ops x.s g = true) (he : Enters P f) (ha : evsA (evA x.s) ar.toList = some al) (hz : frzl al = true) (hf : FnV P f al r) (hp : putF n dst r x.s = some s')
    (next : SO P n ops rest B F K ⟨s', x.h, x.nx⟩) : SO P n ops (⟨dst, .call { callee := .value (.func f), args := ar, argTypes := ts }, ty, ps, af, g⟩ :: rest) B F K x := by
  intro φ σ w hx
  have hv := (evsA_ok hx.fr.ev ha).fz hz
  refine WO_call (guardS_ok hx.fr hg) he (hf φ.f w _ hx.rel.fro hv) ?_
  rintro v w' ⟨hb, F', h1, h2, h3, h4⟩
  have hh := hx.called hb h1 h2 h3
  exact next _ _ _ ⟨hh.fr.put hp (h4.mono (Phi.le_fz ⟨φ.m, φ.s, F'⟩)), hh.rel, hh.dom, hh.old, hh.new, hh.base⟩
end
end Sv
end Go.Proofs.YthhacfehjgfpbaaDoor
end
