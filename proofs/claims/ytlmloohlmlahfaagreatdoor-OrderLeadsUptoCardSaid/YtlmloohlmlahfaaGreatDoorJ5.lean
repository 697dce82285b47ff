/- The texts OpenR of the proof, joined. Each says at its theorems what it proves. -/
import Derived.Test.YtlmloohlmlahfaaGreatDoorJ4
set_option linter.unusedSimpArgs false
set_option linter.unusedVariables false
section
namespace Go.Proofs.YtlmloohlmlahfaaGreatDoor
open Go Go.RowKit
set_option linter.unusedSimpArgs false
set_option linter.unusedVariables false
namespace Sv
section
variable {H : Type} {enc : TypeId × Value → H} {W : World}
theorem Xe {v : Value} (h : v.oneCell' = true) : v.cells.toList = [v] := by cases v <;> simp_all [Value.cells, Value.oneCell']
theorem H7 {sz n : Nat} {g : Nat → AV} {v : Value} (h : VR (ofF (Eh W)) (.row sz n g) v) : v.oneCell' = true := by
 simp only [VR] at h
 obtain ⟨u, _, h0 | ⟨b, o, c, rfl, _⟩⟩ := h
 ·rcases h0 with ⟨_, rfl | ⟨a, c, rfl⟩⟩ <;> rfl
 ·rfl
theorem Q9g (l : List (List UInt8)) : (l.map fun x => x.length + 1).sum = Gt l := by
 induction l with
 | nil => rfl
 | cons d r ih => simp only [List.map_cons, List.sum_cons, Gt, ih]; omega
theorem Q6n {fuel : Nat} {cs : List Value} {y : DataW H × List MemPlace} (h : DataW.trod enc Tryz.prog W 0 (fun _ => true) true fuel 36 cs = some y) :
  ∃ (v : Value) (l : List (List UInt8)), cs = [v] ∧ VR (ofF (Eh W)) (C3 l) v ∧ Gt l + 1 ≤ Rows.uptoBulk y.1 := by
 obtain ⟨v, l, h1, h2, h3⟩ := K9 (f := AV.str) (size := fun x => x.length + 1) (sz := 1) Tryz.underlying36 (show Tryz.prog.cellsOf 9 = 1 by kernel_rfl) (by omega) (fun cs => cs.headD undef) (fun cs' hl ho => by
  match cs', hl with
  | [c], _ => exact Xe (ho c (by simp))) (fun n cs' y _ hl hy => by
  obtain ⟨s, e, rfl, _⟩ := DataW.trod_string Tryz.underlying9 hy
  subst e
  exact ⟨s.data.toList, ⟨by first | (simp only [VR, List.headD]; done) | (simp only [VR, List.headD]; exact Jj s), by intro c hc; simp at hc; subst hc; rfl⟩, by simp [Rows.uptoBulk]⟩) h
 exact ⟨v, l, h1, h2, by rw [Q9g] at h3; exact h3⟩
theorem Q6v {α : Type} (l : List α) : (l.map fun _ => 1).sum = l.length := by
 induction l with
 | nil => rfl
 | cons d r ih => simp only [List.map_cons, List.sum_cons, List.length_cons, ih]; omega
abbrev I64 := { x : Int // -9223372036854775808 ≤ x ∧ x ≤ 9223372036854775807 }
instance : Inhabited I64 := ⟨⟨0, by decide⟩⟩
theorem Q8t {n : Int} (h : (Lit.int .i64 n).wf = true) : -9223372036854775808 ≤ n ∧ n ≤ 9223372036854775807 := by
 simp only [Lit.wf, Bool.and_eq_true, decide_eq_true_eq] at h
 rw [show IntKind.min .i64 = -9223372036854775808 by kernel_rfl, show IntKind.max .i64 = 9223372036854775807 by kernel_rfl] at h
 exact h
theorem Q6s {fuel : Nat} {cs : List Value} {y : DataW H × List MemPlace} (h : DataW.trod enc Tryz.prog W 0 (fun _ => true) true fuel 26 cs = some y) :
  ∃ (v : Value) (l : List Int), cs = [v] ∧ VR (ofF (Eh W)) (Af l) v ∧ l.length + 1 ≤ Rows.uptoBulk y.1 ∧ ∀ i, i < l.length → -9223372036854775808 ≤ nth l i ∧ nth l i ≤ 9223372036854775807 := by
 obtain ⟨v, l, h1, h2, h3⟩ := K9 (α := I64) (f := fun x => AV.int .i64 x.1) (size := fun _ => 1) (sz := 1) Tryz.underlying26 (show Tryz.prog.cellsOf 3 = 1 by kernel_rfl) (by omega) (fun cs => cs.headD undef) (fun cs' hl ho => by
  match cs', hl with
  | [c], _ => exact Xe (ho c (by simp))) (fun n cs' y _ hl hy => by
  obtain ⟨s, e, rfl, hw⟩ := DataW.trod_int Tryz.underlying3 hy
  subst e
  exact ⟨⟨s, Q8t hw⟩, ⟨by simp only [VR, List.headD], by intro c hc; simp at hc; subst hc; rfl⟩, by simp [Rows.uptoBulk]⟩) h
 have hn : ∀ i, i < l.length → nth (l.map Subtype.val) i = (nth l i).1 := fun i hi => by simp [nth, hi]
 refine ⟨v, l.map Subtype.val, h1, ?_, by rw [List.length_map]; rw [Q6v] at h3; exact h3, fun i hi => ?_⟩
 ·refine Imp.trans (b := .row 1 (l.map Subtype.val).length (fun i => .int .i64 (nth l i).1)) ?_ (Imp.row fun i hi => Imp.of_eq (by rw [hn i (by simpa using hi)])) _ _ h2
  rw [List.length_map]; exact Imp.refl
 ·rw [List.length_map] at hi
  rw [hn i hi]; exact (nth l i).2
theorem Jx {fuel : Nat} {cs : List Value} {y : DataW H × List MemPlace} (h : DataW.trod enc Tryz.prog W 0 (fun _ => true) true fuel 23 cs = some y) :
  ∃ (v : Value) (l : List DepT), cs = [v] ∧ VR (ofF (Eh W)) (Dj l) v ∧ argsSize l + 1 ≤ Rows.uptoBulk y.1 := by
 obtain ⟨v, l, h1, h2, h3⟩ := K9 (f := Al) (size := DepT.size) Tryz.underlying23 (show Tryz.prog.cellsOf 25 = 5 by kernel_rfl) (by omega) (fun cs => .agg cs.toArray) (fun cs' _ _ => by simp [Value.cells]) (fun n cs' y _ _ hy => Xd n cs' y hy) h
 exact ⟨v, l, h1, h2, by rw [Q15] at h3; exact h3⟩
set_option maxHeartbeats 1000000 in
set_option maxRecDepth 100000 in
theorem Q6r {fuel : Nat} {cs : List Value} {x : DataW H × List MemPlace} (h : DataW.trod enc Tryz.prog W 0 (fun _ => true) true fuel 38 cs = some x) : ∃ d : PkgT, (VR (ofF (Eh W)) (As d) (.agg cs.toArray) ∧ ∀ c ∈ cs, c.oneCell' = true) ∧ d.size + 1 ≤ Rows.uptoBulk x.1 := by
 obtain ⟨xs, n, hf, rfl, hl, hxs, hfs⟩ := DataW.trod_struct Tryz.underlying38 h
 have hl' : cs.length = 12 := hl.trans (by kernel_rfl)
 match cs, hl' with
 | [c0, c1, c2, c3, c4, c5, c6, c7, c8, c9, c10, c11], _ =>
 match xs, hxs with
 | [y0, y1, y2, y3, y4, y5, y6, y7, y8, y9, y10, y11], _ =>
 have g0 : DataW.trod enc Tryz.prog W 0 (fun _ => true) true n 9 [c0] = some y0 := by
  have g : DataW.trod enc Tryz.prog W 0 (fun _ => true) true n 9 (([c0, c1, c2, c3, c4, c5, c6, c7, c8, c9, c10, c11].drop 0).take (Tryz.prog.cellsOf 9)) = some y0 := hfs 0 _ rfl
  rw [show Tryz.prog.cellsOf 9 = 1 by kernel_rfl] at g
  exact g
 have g1 : DataW.trod enc Tryz.prog W 0 (fun _ => true) true n 9 [c1] = some y1 := by
  have g : DataW.trod enc Tryz.prog W 0 (fun _ => true) true n 9 (([c0, c1, c2, c3, c4, c5, c6, c7, c8, c9, c10, c11].drop 1).take (Tryz.prog.cellsOf 9)) = some y1 := hfs 1 _ rfl
  rw [show Tryz.prog.cellsOf 9 = 1 by kernel_rfl] at g
  exact g
 have g2 : DataW.trod enc Tryz.prog W 0 (fun _ => true) true n 9 [c2] = some y2 := by
  have g : DataW.trod enc Tryz.prog W 0 (fun _ => true) true n 9 (([c0, c1, c2, c3, c4, c5, c6, c7, c8, c9, c10, c11].drop 2).take (Tryz.prog.cellsOf 9)) = some y2 := hfs 2 _ rfl
  rw [show Tryz.prog.cellsOf 9 = 1 by kernel_rfl] at g
  exact g
 have g3 : DataW.trod enc Tryz.prog W 0 (fun _ => true) true n 9 [c3] = some y3 := by
  have g : DataW.trod enc Tryz.prog W 0 (fun _ => true) true n 9 (([c0, c1, c2, c3, c4, c5, c6, c7, c8, c9, c10, c11].drop 3).take (Tryz.prog.cellsOf 9)) = some y3 := hfs 3 _ rfl
  rw [show Tryz.prog.cellsOf 9 = 1 by kernel_rfl] at g
  exact g
 have g4 : DataW.trod enc Tryz.prog W 0 (fun _ => true) true n 23 [c4] = some y4 := by
  have g : DataW.trod enc Tryz.prog W 0 (fun _ => true) true n 23 (([c0, c1, c2, c3, c4, c5, c6, c7, c8, c9, c10, c11].drop 4).take (Tryz.prog.cellsOf 23)) = some y4 := hfs 4 _ rfl
  rw [show Tryz.prog.cellsOf 23 = 1 by kernel_rfl] at g
  exact g
 have g5 : DataW.trod enc Tryz.prog W 0 (fun _ => true) true n 23 [c5] = some y5 := by
  have g : DataW.trod enc Tryz.prog W 0 (fun _ => true) true n 23 (([c0, c1, c2, c3, c4, c5, c6, c7, c8, c9, c10, c11].drop 5).take (Tryz.prog.cellsOf 23)) = some y5 := hfs 5 _ rfl
  rw [show Tryz.prog.cellsOf 23 = 1 by kernel_rfl] at g
  exact g
 have g6 : DataW.trod enc Tryz.prog W 0 (fun _ => true) true n 23 [c6] = some y6 := by
  have g : DataW.trod enc Tryz.prog W 0 (fun _ => true) true n 23 (([c0, c1, c2, c3, c4, c5, c6, c7, c8, c9, c10, c11].drop 6).take (Tryz.prog.cellsOf 23)) = some y6 := hfs 6 _ rfl
  rw [show Tryz.prog.cellsOf 23 = 1 by kernel_rfl] at g
  exact g
 have g7 : DataW.trod enc Tryz.prog W 0 (fun _ => true) true n 23 [c7] = some y7 := by
  have g : DataW.trod enc Tryz.prog W 0 (fun _ => true) true n 23 (([c0, c1, c2, c3, c4, c5, c6, c7, c8, c9, c10, c11].drop 7).take (Tryz.prog.cellsOf 23)) = some y7 := hfs 7 _ rfl
  rw [show Tryz.prog.cellsOf 23 = 1 by kernel_rfl] at g
  exact g
 have g8 : DataW.trod enc Tryz.prog W 0 (fun _ => true) true n 23 [c8] = some y8 := by
  have g : DataW.trod enc Tryz.prog W 0 (fun _ => true) true n 23 (([c0, c1, c2, c3, c4, c5, c6, c7, c8, c9, c10, c11].drop 8).take (Tryz.prog.cellsOf 23)) = some y8 := hfs 8 _ rfl
  rw [show Tryz.prog.cellsOf 23 = 1 by kernel_rfl] at g
  exact g
 have g9 : DataW.trod enc Tryz.prog W 0 (fun _ => true) true n 23 [c9] = some y9 := by
  have g : DataW.trod enc Tryz.prog W 0 (fun _ => true) true n 23 (([c0, c1, c2, c3, c4, c5, c6, c7, c8, c9, c10, c11].drop 9).take (Tryz.prog.cellsOf 23)) = some y9 := hfs 9 _ rfl
  rw [show Tryz.prog.cellsOf 23 = 1 by kernel_rfl] at g
  exact g
 have g10 : DataW.trod enc Tryz.prog W 0 (fun _ => true) true n 23 [c10] = some y10 := by
  have g : DataW.trod enc Tryz.prog W 0 (fun _ => true) true n 23 (([c0, c1, c2, c3, c4, c5, c6, c7, c8, c9, c10, c11].drop 10).take (Tryz.prog.cellsOf 23)) = some y10 := hfs 10 _ rfl
  rw [show Tryz.prog.cellsOf 23 = 1 by kernel_rfl] at g
  exact g
 have g11 : DataW.trod enc Tryz.prog W 0 (fun _ => true) true n 36 [c11] = some y11 := by
  have g : DataW.trod enc Tryz.prog W 0 (fun _ => true) true n 36 (([c0, c1, c2, c3, c4, c5, c6, c7, c8, c9, c10, c11].drop 11).take (Tryz.prog.cellsOf 36)) = some y11 := hfs 11 _ rfl
  rw [show Tryz.prog.cellsOf 36 = 1 by kernel_rfl] at g
  exact g
 obtain ⟨s0, e0, rfl, _⟩ := DataW.trod_string Tryz.underlying9 g0
 obtain ⟨s1, e1, rfl, _⟩ := DataW.trod_string Tryz.underlying9 g1
 obtain ⟨s2, e2, rfl, _⟩ := DataW.trod_string Tryz.underlying9 g2
 obtain ⟨s3, e3, rfl, _⟩ := DataW.trod_string Tryz.underlying9 g3
 obtain ⟨w4, s4, e4, r4, b4⟩ := Jx g4
 obtain ⟨w5, s5, e5, r5, b5⟩ := Jx g5
 obtain ⟨w6, s6, e6, r6, b6⟩ := Jx g6
 obtain ⟨w7, s7, e7, r7, b7⟩ := Jx g7
 obtain ⟨w8, s8, e8, r8, b8⟩ := Jx g8
 obtain ⟨w9, s9, e9, r9, b9⟩ := Jx g9
 obtain ⟨w10, s10, e10, r10, b10⟩ := Jx g10
 obtain ⟨w11, s11, e11, r11, b11⟩ := Q6n g11
 simp only [List.cons.injEq, and_true] at e0 e1 e2 e3 e4 e5 e6 e7 e8 e9 e10 e11
 subst e0 e1 e2 e3 e4 e5 e6 e7 e8 e9 e10 e11
 refine ⟨⟨s0.data.toList, s1.data.toList, s2.data.toList, s3.data.toList, s4, s5, s6, s7, s8, s9, s10, s11⟩, ⟨?_, ?_⟩, ?_⟩
 ·unfold As
  simp only [VR]
  exact ⟨_, .cons (by first | (simp only [VR]; done) | (simp only [VR]; exact Jj s0)) (.cons (by first | (simp only [VR]; done) | (simp only [VR]; exact Jj s1)) (.cons (by first | (simp only [VR]; done) | (simp only [VR]; exact Jj s2)) (.cons (by first | (simp only [VR]; done) | (simp only [VR]; exact Jj s3)) (.cons r4 (.cons r5 (.cons r6 (.cons r7 (.cons r8 (.cons r9 (.cons r10 (.cons r11 (.nil)))))))))))), rfl⟩
 ·intro c hc
  simp only [List.mem_cons, List.not_mem_nil, or_false] at hc
  rcases hc with rfl | rfl | rfl | rfl | rfl | rfl | rfl | rfl | rfl | rfl | rfl | rfl
  ·exact rfl
  ·exact rfl
  ·exact rfl
  ·exact rfl
  ·exact H7 r4
  ·exact H7 r5
  ·exact H7 r6
  ·exact H7 r7
  ·exact H7 r8
  ·exact H7 r9
  ·exact H7 r10
  ·exact H7 r11
 ·simp only [PkgT.size, PkgT.depSize, List.map_cons, List.map_nil, Rows.uptoBulk, Rows.uptoBulkAll]
  omega
theorem Q55 (l : List PkgT) : (l.map fun p => p.size + 1).sum = Ho l := by
 induction l with
 | nil => rfl
 | cons d r ih => simp only [List.map_cons, List.sum_cons, Ho, ih]; omega
theorem Q6q {fuel : Nat} {cs : List Value} {y : DataW H × List MemPlace} (h : DataW.trod enc Tryz.prog W 0 (fun _ => true) true fuel 39 cs = some y) :
  ∃ (v : Value) (l : List PkgT), cs = [v] ∧ VR (ofF (Eh W)) (Ac 12 As l) v ∧ Ho l + 1 ≤ Rows.uptoBulk y.1 := by
 obtain ⟨v, l, h1, h2, h3⟩ := K9 (f := As) (size := fun p => p.size + 1) Tryz.underlying39 (show Tryz.prog.cellsOf 38 = 12 by kernel_rfl) (by omega) (fun cs => .agg cs.toArray) (fun cs' _ _ => by simp [Value.cells]) (fun n cs' y _ _ hy => by
  obtain ⟨d, h1, h2⟩ := Q6r hy
  exact ⟨d, h1, h2⟩) h
 exact ⟨v, l, h1, h2, by rw [Q55] at h3; exact h3⟩
set_option maxHeartbeats 1000000 in
set_option maxRecDepth 100000 in
theorem Q6p {fuel : Nat} {cs : List Value} {x : DataW H × List MemPlace} (h : DataW.trod enc Tryz.prog W 0 (fun _ => true) true fuel 41 cs = some x) : ∃ d : RepoT, (VR (ofF (Eh W)) (Bf d) (.agg cs.toArray) ∧ ∀ c ∈ cs, c.oneCell' = true) ∧ d.size + 1 ≤ Rows.uptoBulk x.1 := by
 obtain ⟨xs, n, hf, rfl, hl, hxs, hfs⟩ := DataW.trod_struct Tryz.underlying41 h
 have hl' : cs.length = 4 := hl.trans (by kernel_rfl)
 match cs, hl' with
 | [c0, c1, c2, c3], _ =>
 match xs, hxs with
 | [y0, y1, y2, y3], _ =>
 have g0 : DataW.trod enc Tryz.prog W 0 (fun _ => true) true n 9 [c0] = some y0 := by
  have g : DataW.trod enc Tryz.prog W 0 (fun _ => true) true n 9 (([c0, c1, c2, c3].drop 0).take (Tryz.prog.cellsOf 9)) = some y0 := hfs 0 _ rfl
  rw [show Tryz.prog.cellsOf 9 = 1 by kernel_rfl] at g
  exact g
 have g1 : DataW.trod enc Tryz.prog W 0 (fun _ => true) true n 3 [c1] = some y1 := by
  have g : DataW.trod enc Tryz.prog W 0 (fun _ => true) true n 3 (([c0, c1, c2, c3].drop 1).take (Tryz.prog.cellsOf 3)) = some y1 := hfs 1 _ rfl
  rw [show Tryz.prog.cellsOf 3 = 1 by kernel_rfl] at g
  exact g
 have g2 : DataW.trod enc Tryz.prog W 0 (fun _ => true) true n 4 [c2] = some y2 := by
  have g : DataW.trod enc Tryz.prog W 0 (fun _ => true) true n 4 (([c0, c1, c2, c3].drop 2).take (Tryz.prog.cellsOf 4)) = some y2 := hfs 2 _ rfl
  rw [show Tryz.prog.cellsOf 4 = 1 by kernel_rfl] at g
  exact g
 have g3 : DataW.trod enc Tryz.prog W 0 (fun _ => true) true n 39 [c3] = some y3 := by
  have g : DataW.trod enc Tryz.prog W 0 (fun _ => true) true n 39 (([c0, c1, c2, c3].drop 3).take (Tryz.prog.cellsOf 39)) = some y3 := hfs 3 _ rfl
  rw [show Tryz.prog.cellsOf 39 = 1 by kernel_rfl] at g
  exact g
 obtain ⟨s0, e0, rfl, _⟩ := DataW.trod_string Tryz.underlying9 g0
 obtain ⟨s1, e1, rfl, _⟩ := DataW.trod_int Tryz.underlying3 g1
 obtain ⟨s2, e2, rfl⟩ := DataW.trod_bool Tryz.underlying4 g2
 obtain ⟨w3, s3, e3, r3, b3⟩ := Q6q g3
 simp only [List.cons.injEq, and_true] at e0 e1 e2 e3
 subst e0 e1 e2 e3
 refine ⟨⟨s0.data.toList, s1, s2, s3⟩, ⟨?_, ?_⟩, ?_⟩
 ·unfold Bf
  simp only [VR]
  exact ⟨_, .cons (by first | (simp only [VR]; done) | (simp only [VR]; exact Jj s0)) (.cons (by simp only [VR]) (.cons (by simp only [VR]) (.cons r3 (.nil)))), rfl⟩
 ·intro c hc
  simp only [List.mem_cons, List.not_mem_nil, or_false] at hc
  rcases hc with rfl | rfl | rfl | rfl
  ·exact rfl
  ·exact rfl
  ·exact rfl
  ·exact H7 r3
 ·simp only [RepoT.size, List.map_cons, List.map_nil, Rows.uptoBulk, Rows.uptoBulkAll]
  omega
theorem Q6o {fuel : Nat} {cs : List Value} {y : DataW H × List MemPlace} (h : DataW.trod enc Tryz.prog W 0 (fun _ => true) true fuel 22 cs = some y) :
  ∃ (v : Value) (l : List RepoT), cs = [v] ∧ VR (ofF (Eh W)) (Ac 4 Bf l) v ∧ (l.map RepoT.size).sum + 1 ≤ Rows.uptoBulk y.1 :=
 K9 (f := Bf) (size := RepoT.size) Tryz.underlying22 (show Tryz.prog.cellsOf 41 = 4 by kernel_rfl) (by omega) (fun cs => .agg cs.toArray) (fun cs' _ _ => by simp [Value.cells]) (fun n cs' y _ _ hy => by
  obtain ⟨d, h1, h2⟩ := Q6p hy
  exact ⟨d, h1, by omega⟩) h
theorem Q34 {l : List RepoT} : ∀ {i : Nat}, i < l.length → (nth l i).size ≤ (l.map RepoT.size).sum := by
 induction l with
 | nil => intro i h; simp at h
 | cons r l ih =>
  intro i h
  cases i with
  | zero => simp only [List.map_cons, List.sum_cons]; show r.size ≤ _; omega
  | succ i =>
   have := ih (i := i) (by simpa using h)
   simp only [List.map_cons, List.sum_cons]; show (nth l i).size ≤ _; omega
theorem U1 : ∀ l : List RepoT, l.length ≤ (l.map RepoT.size).sum
 | [] => Nat.le_refl _
 | r :: l => by
  have := U1 l
  have : 1 ≤ r.size := by unfold RepoT.size; omega
  simp only [List.map_cons, List.sum_cons, List.length_cons]; omega
set_option maxRecDepth 100000 in
theorem open_repos {r : Reach} {b0 : Nat} {v : Value} {d : DataW H} {p : List MemPlace} (hv : Value.okWide Tryz.prog W r b0 22 v) (h : DataW.Trod enc Tryz.prog W 0 (fun _ => true) true 22 v d p) :
  ∃ l : List RepoT, VR (ofF (Eh W)) (Ac 4 Bf l) v ∧ l.length ≤ Rows.uptoBulk d ∧ ∀ i, i < l.length → (nth l i).size ≤ Rows.uptoBulk d := by
 obtain ⟨a, len, cap, rfl⟩ := Go.WideShapes.okWide_slice Tryz.underlying22 hv
 obtain ⟨fuel, hf⟩ := h
 obtain ⟨v, l, h1, h2, h3⟩ := Q6o hf
 have e : Value.slice a len cap = v := by simpa [Value.cells] using h1
 subst e
 have h3 : (l.map RepoT.size).sum + 1 ≤ Rows.uptoBulk d := h3
 exact ⟨l, h2, by have := U1 l; omega, fun i hi => by have := Q34 hi; omega⟩
set_option maxRecDepth 100000 in
theorem open_nums {r : Reach} {b0 : Nat} {v : Value} {d : DataW H} {p : List MemPlace} (hv : Value.okWide Tryz.prog W r b0 26 v) (h : DataW.Trod enc Tryz.prog W 0 (fun _ => true) true 26 v d p) :
  ∃ l : List Int, VR (ofF (Eh W)) (Af l) v ∧ l.length ≤ Rows.uptoBulk d ∧ ∀ i, i < l.length → -9223372036854775808 ≤ nth l i ∧ nth l i ≤ 9223372036854775807 := by
 obtain ⟨a, len, cap, rfl⟩ := Go.WideShapes.okWide_slice Tryz.underlying26 hv
 obtain ⟨fuel, hf⟩ := h
 obtain ⟨v, l, h1, h2, h3, h4⟩ := Q6s hf
 have e : Value.slice a len cap = v := by simpa [Value.cells] using h1
 subst e
 have h3 : l.length + 1 ≤ Rows.uptoBulk d := h3
 exact ⟨l, h2, by omega, h4⟩
end
end Sv
end Go.Proofs.YtlmloohlmlahfaaGreatDoor
end
