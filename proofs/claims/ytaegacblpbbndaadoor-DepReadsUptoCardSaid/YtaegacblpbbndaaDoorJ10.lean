/- The texts EvB of the proof, joined. Each says at its theorems what it proves. -/
import Derived.Test.YtaegacblpbbndaaDoorJ9
set_option linter.unusedSimpArgs false
set_option linter.unusedVariables false
section
namespace Go.Proofs.YtaegacblpbbndaaDoor
open Go Go.RowKit
set_option linter.unusedSimpArgs false
set_option linter.unusedVariables false
namespace Ev
section
variable {P : Program} {φ : Phi} {w0 : Base} {w : World} {h : AH}
theorem app_src {t tx ty e n len cap by_ : Nat} {i : TypeInfo} {z : Value} {base : Option Addr} {xv : Value} {us : List Value} (ht : P.underlying t = some (.slice e)) (hi : P.info? e = some i) (hz : i.zero = some z) (hzs : z.cells.size = i.size)
    (hs : Src P i.size tx xv n us w) (h63 : cap < len + n → len + n ≤ 1000000) (hby : cap < len + n → (len + n) * i.bytes ≤ 1000000000) :
    App P φ e i.size by_ n (Builtin.append_ #[t, tx] ty #[.slice base len cap, xv]) base len cap us w := by
  refine ⟨?_, ?_, ?_, ?_⟩
  · rintro hroom b off rfl w' hst
    rcases hs.kind with ⟨e', hk⟩ | hk <;> simp [Builtin.append_, run_underlying ht, run_underlying hk, sizeOf, typeInfo, hi, hs.len, hroom, hs.cells, Addr.add_lit, hst]
  · rintro rfl rfl rfl
    rcases hs.kind with ⟨e', hk⟩ | hk <;> simp [Builtin.append_, run_underlying ht, run_underlying hk, sizeOf, typeInfo, hi, hs.len, hs.cells]
  · rintro rfl hle
    have hu : us = [] := List.eq_nil_of_length_eq_zero (by rw [hs.newsLen]; simp)
    have hc := hs.cells
    subst hu
    cases base with
    | none => rcases hs.kind with ⟨e', hk⟩ | hk <;> simp [Builtin.append_, run_underlying ht, run_underlying hk, sizeOf, typeInfo, hi, hs.len, hle, hc]
    | some a => rcases hs.kind with ⟨e', hk⟩ | hk <;> simp [Builtin.append_, run_underlying ht, run_underlying hk, sizeOf, typeInfo, hi, hs.len, hle, hc, storeCells]
  · intro hg olds hold
    have g1 := h63 hg
    have g2 := hby hg
    refine ⟨grownCap w (len + n) cap e, (Builtin.zeroCells z.cells (grownCap w (len + n) cap e - (len + n))).toList, grownCap_ge w (len + n) cap e, by simp [size_zeroCells, hzs], ?_⟩
    rw [run_append_grow_src w t tx ty e i z ht hi hz base len cap olds.toList (by simpa using hold) xv n us hs hg (by omega) (by have := growslice_fits (need := len + n) (old := cap) (bytes := i.bytes) hg (by omega); omega)]
    congr 3
    apply Array.ext'; simp
theorem app_zeros {t tx ty e n len cap by_ : Nat} {i : TypeInfo} {z : Value} {base : Option Addr} {kd k2 : IntKind} (hn0 : 0 < n) (ht : P.underlying t = some (.slice e)) (hi : P.info? e = some i) (hz : i.zero = some z) (hzs : z.cells.size = i.size) (hpos : 0 < i.size)
    (hk : P.underlying tx = some (.int k2)) (hn : n ≤ 1000000) (hnb : n * i.bytes ≤ 1000000000) (h63 : cap < len + n → len + n ≤ 1000000) (hby : cap < len + n → (len + n) * i.bytes ≤ 1000000000) :
    App P φ e i.size by_ n (Builtin.append_ #[t, tx] ty #[.slice base len cap, .int kd (n : Int)]) base len cap (Builtin.zeroCells z.cells n).toList w := by
  have w1 := wrap_small hn
  have g0 : ¬ ((n : Int) < 0) := by omega
  have g1 : ¬ ((2 : Int) ^ 48 < (n : Int) * (i.bytes : Int)) := by
    have h5 : ((n * i.bytes : Nat) : Int) ≤ ((1000000000 : Nat) : Int) := Int.ofNat_le.2 hnb
    rw [Int.natCast_mul] at h5
    have h6 : (2 : Int) ^ 48 = 281474976710656 := rfl
    omega
  have g1' : ¬ ((281474976710656 : Int) < (n : Int) * (i.bytes : Int)) := g1
  have hne : ¬ (n * i.size = 0) := by
    have := Nat.mul_pos hn0 hpos
    omega
  have hzv : ∀ w, (zeroValue e).run P w = .ok z w := fun w => by simp [zeroValue, typeInfo, hi, hz, go_sem]
  refine ⟨?_, fun _ h0 => by omega, fun h0 => by omega, ?_⟩
  · rintro hroom b off rfl w' hst
    simp [Builtin.append_, run_underlying ht, run_underlying hk, sizeOf, typeInfo, hi, asInt, asIntOf, w1, g0, g1', hroom]
    rw [if_neg hne]
    simp only [hzv, Result.andThen_ok, addr_add, hst]
  · intro hg olds hold
    have k1 := h63 hg
    have k2 := hby hg
    have hn' : ¬ (len + n ≤ cap) := by omega
    have h63' : ¬ (9223372036854775807 < ((len : Int) + (n : Int))) := by omega
    have h48' : ¬ (281474976710656 < Builtin.nextslicecap (len + n) cap * i.bytes) := by have := growslice_fits (need := len + n) (old := cap) (bytes := i.bytes) hg (by omega); omega
    refine ⟨grownCap w (len + n) cap e, (Builtin.zeroCells z.cells (grownCap w (len + n) cap e - (len + n))).toList, grownCap_ge w (len + n) cap e, by simp [size_zeroCells, hzs], ?_⟩
    simp [Builtin.append_, run_underlying ht, run_underlying hk, sizeOf, typeInfo, hi, asInt, asIntOf, w1, g0, g1', hn', h63', h48', Question.forced, hold, newRow, grownCap]
    rw [if_neg hne]
    simp only [hzv, Result.andThen_ok]
    congr 3
    apply Array.ext'
    simp [List.append_assoc]
theorem appendA_ok {t t2 ty : Nat} {s x a : AV} {sv xv : Value} {h' : AH} (ha : appendA P t t2 s x h = some (a, h')) (hs : VR φ s sv) (hx : VR φ x xv) (r : Rel w0 φ h w) :
    SemOK P w0 φ h w (Builtin.append_ #[t, t2] ty #[sv, xv]) a h' := by
  unfold appendA at ha
  split at ha
  · rename_i e hu
    split at ha
    · rename_i size hsz
      split at ha
      · rename_i by_ hby
        split at ha
        · rename_i z hz
          cases hc : (Nat.beq (cellsOf z).length size && !aggd z && Nat.blt 0 size) with
          | false => rw [hc] at ha; cases ha
          | true =>
            rw [hc, cond_true] at ha
            simp only [Bool.and_eq_true, Bool.not_eq_true'] at hc
            obtain ⟨⟨c1, c2⟩, c3⟩ := hc
            have c1' := Nat.eq_of_beq_eq_true c1
            have c3' : 0 < size := by simpa [Nat.blt_eq] using c3
            obtain ⟨i, hi, hib, hisz⟩ := tby_info hby hsz
            obtain ⟨zv, hzv, hzr, hz0⟩ : ∃ zv, i.zero = some zv ∧ VR φ z zv ∧ zv.cells.size = size := by
              unfold zeroA at hz
              rw [hi] at hz
              simp only at hz
              split at hz
              · rename_i zv hzv
                have hr := ofV_VR (φ := φ) hz
                have := (hr.cells c2).length
                exact ⟨zv, hzv, hr, by simp only [Array.length_toList] at this; omega⟩
              · cases hz
            have lens : ∀ n, appendA.lenOk s n by_ = true → (∀ base len cap, sv = .slice base len cap → cap < len + n → len + n ≤ 1000000 ∧ (len + n) * i.bytes ≤ 1000000000) ∧ (∀ b off len cap op, s = .sl b off len cap op → len + n ≤ 1000000) := by
              intro n hn
              unfold appendA.lenOk at hn
              split at hn
              · rename_i b off len cap op
                simp only [Bool.and_eq_true] at hn
                have n1 := ble_of hn.1; have n2 := ble_of hn.2
                simp only [VR] at hs
                obtain ⟨y, κ, _, hs⟩ := hs
                refine ⟨fun base len' cap' e' _ => ?_, fun b' off' len' cap' op' e' => by cases e'; exact n1⟩
                have : len' = len := by rcases hs with ⟨_, _, hs⟩ | ⟨_, hs⟩ <;> (rw [hs] at e'; cases e'; rfl)
                subst this
                rw [hib]; exact ⟨n1, n2⟩
              · simp only [Bool.and_eq_true] at hn
                have n1 := ble_of hn.1; have n2 := ble_of hn.2
                refine ⟨fun base len cap e' hlt => ?_, fun b off len cap op e' => by cases e'⟩
                simp only [VR] at hs
                rw [hs] at e'; cases e'
                rw [hib, Nat.zero_add]; exact ⟨n1, n2⟩
              · simp only [Bool.and_eq_true] at hn
                have n1 := ble_of hn.1; have n2 := ble_of hn.2
                refine ⟨fun base len cap e' hlt => ?_, fun b off len cap op e' => by cases e'⟩
                simp only [VR] at hs
                obtain ⟨p, c, hs⟩ := hs
                rw [hs] at e'; cases e'
                rw [hib, Nat.zero_add]; exact ⟨n1, n2⟩
              · cases hn
            split at ha
            · rename_i hzf
              split at ha
              · rename_i n news hsrc
                cases hcc : (ones news && srcKind P t2 x && appendA.lenOk s n by_) with
                | false => rw [hcc] at ha; cases ha
                | true =>
                  rw [hcc, cond_true] at ha
                  simp only [Bool.and_eq_true] at hcc
                  obtain ⟨⟨d1, d2⟩, d3⟩ := hcc
                  obtain ⟨us, s1, s2⟩ := srcA_ok d2 hsrc d1 hx r
                  have hl := lens n d3
                  refine growA_ok (by_ := by_) ha hs s1 s2.newsLen c3' hl.2 ?_ r
                  rintro base len cap rfl
                  subst hisz
                  exact app_src hu hi hzv (by rw [hz0]) s2 (fun q => (hl.1 _ _ _ rfl q).1) (fun q => (hl.1 _ _ _ rfl q).2)
              · cases ha
            · rename_i hzz
              split at ha
              · rename_i n hn
                cases hcc : (Nat.blt 0 n && ones (cellsOf z) && Nat.ble n 1000000 && Nat.ble (n * by_) 1000000000 && appendA.lenOk s n by_) with
                | false => rw [hcc] at ha; cases ha
                | true =>
                  rw [hcc, cond_true] at ha
                  simp only [Bool.and_eq_true] at hcc
                  obtain ⟨⟨⟨⟨d0, d1⟩, d2⟩, d3⟩, d4⟩ := hcc
                  have d0' : 0 < n := by simpa [Nat.blt_eq] using d0
                  obtain ⟨kd, rfl⟩ := natOf_VR hn hx
                  have hl := lens n d4
                  have hzero := zeroRowA_ok (hzr.cells c2) (by omega) (n * size)
                  have hz2 : ((Array.range (n * size)).map fun i => zv.cells[i % zv.cells.size]!) = Builtin.zeroCells zv.cells n := by unfold Builtin.zeroCells; rw [hz0]
                  rw [hz2] at hzero
                  refine growA_ok (by_ := by_) ha hs hzero (by simp [size_zeroCells, hz0]) c3' hl.2 ?_ r
                  rintro base len cap rfl
                  subst hisz
                  have hk : ∃ k, P.underlying t2 = some (.int k) := by
                    unfold isZeros at hzz
                    split at hzz
                    · rename_i k hk; exact ⟨k, hk⟩
                    · cases hzz
                    · cases hzz
                  obtain ⟨k2, hk⟩ := hk
                  exact app_zeros d0' hu hi hzv (by rw [hz0]) c3' hk (ble_of d2) (by rw [hib]; exact ble_of d3) (fun q => (hl.1 _ _ _ rfl q).1) (fun q => (hl.1 _ _ _ rfl q).2)
              · cases ha
            · cases ha
        · cases ha
      · cases ha
    · cases ha
  · cases ha
end
section
variable (P : Program)
noncomputable def copyA (t : Nat) (d s : AV) (h : AH) : Option (AV × AH) := match P.underlying t with
  | some (.slice e) => match tsz P e with
    | some size => match srcA size s h with
      | some (m, c) => match d with
        | .nils => some (.int .i64 (.ofNat 0), h)
        | .sle => some (.int .i64 (.ofNat 0), h)
        | .sl b off len _ _ => match writeA h b off (c.take (Nat.min m len * size)) with
          | some h' => some (.int .i64 (.ofNat (Nat.min m len)), h')
          | none => none
        | _ => none
      | none => none
    | none => none
  | _ => none
noncomputable def clearA (t : Nat) (a : AV) (h : AH) : Option (AV × AH) := match P.underlying t with
  | some (.slice e) => match a with
    | .nils => some (.tup [], h)
    | .sle => some (.tup [], h)
    | .sl b off len _ _ => match zeroA P e with
      | some z => match cellsOf z with
        | [] => none
        | y :: zs => bif aggd z then none else match writeA h b off (zeroRowA (y :: zs) (len * (y :: zs).length)) with
          | some h' => some (.tup [], h')
          | none => none
      | none => none
    | _ => none
  | _ => none
end
section
variable {P : Program} {φ : Phi} {w0 : Base} {w : World} {h : AH}
theorem firstN_ok {size n : Nat} {x : AV} {v : Value} {c : List AV} (hs : srcA size x h = some (n, c)) (hx : VR φ x v) (r : Rel w0 φ h w) :
    (∀ w', (Builtin.lenOf v).run P w' = .ok n w') ∧ ∀ m, m ≤ n → ∃ us : List Value, VRl φ (c.take (m * size)) us ∧ us.length = m * size ∧ (Builtin.firstCells size m v).run P w = .ok us.toArray w := by
  unfold srcA at hs
  split at hs
  · cases hs
    simp only [VR] at hx; subst hx
    refine ⟨fun w' => rfl, fun m hm => ?_⟩
    have : m = 0 := by omega
    subst this
    exact ⟨[], by simp only [List.take_nil]; exact .nil, by simp, rfl⟩
  · cases hs
    simp only [VR] at hx; obtain ⟨a, k, rfl⟩ := hx
    refine ⟨fun w' => rfl, fun m hm => ?_⟩
    have : m = 0 := by omega
    subst this
    exact ⟨[], by simp only [List.take_nil]; exact .nil, by simp, by simp [Builtin.firstCells, loadCells, loadCellsFrom, go_sem]⟩
  · rename_i b off len cap op
    simp only [VR] at hx
    obtain ⟨y, κ, hφ, hx⟩ := hx
    have hx' : ∃ k, v = .slice (some ⟨y, off, none⟩) len k := by rcases hx with ⟨_, _, hx⟩ | ⟨_, hx⟩ <;> exact ⟨_, hx⟩
    obtain ⟨k, rfl⟩ := hx'
    split at hs
    · rename_i c0 e sz op' hb
      cases hc : Nat.ble (off + len * size) c0.length with
      | false => rw [hc] at hs; cases hs
      | true =>
        rw [hc, cond_true] at hs; cases hs
        have hle := ble_of hc
        refine ⟨fun w' => rfl, fun m hm => ?_⟩
        have hms := Nat.mul_le_mul_right size hm
        obtain ⟨us, h1, h2, h3⟩ := r.load (P := P) hb hφ (n := m * size) (Nat.le_trans (Nat.add_le_add_left (Nat.mul_le_mul_right _ hm) off) hle)
        refine ⟨us, ?_, h1, by simpa only [Builtin.firstCells] using h3⟩
        rw [List.take_take, Nat.min_eq_left hms]; exact h2
    · cases hs
  · rename_i l
    simp only [VR] at hx; subst hx
    rcases beq_cases size 1 with ⟨q, rfl⟩ | ⟨q, _⟩
    · rw [q, cond_true] at hs; cases hs
      refine ⟨fun w' => by simp [Builtin.lenOf, S_size, go_sem], fun m hm => ?_⟩
      refine ⟨(l.take m).map fun u => Value.int .u8 u.toNat, ?_, by simp; omega, ?_⟩
      · rw [Nat.mul_one, ← List.map_take]; exact VRl.bytes _
      · simp only [Builtin.firstCells, Sem.run_pure]
        congr 1
        apply Array.ext'
        simp [ByteArray.data_extract]
    · rw [q, cond_false] at hs; cases hs
  · cases hs
theorem copyA_ok {t t2 ty : Nat} {d s a : AV} {dv sv : Value} {h' : AH} (hc : copyA P t d s h = some (a, h')) (hd : VR φ d dv) (hs : VR φ s sv) (r : Rel w0 φ h w) :
    SemOK P w0 φ h w (Builtin.copy_ #[t, t2] ty #[dv, sv]) a h' := by
  unfold copyA at hc
  split at hc
  · rename_i e hu
    split at hc
    · rename_i size hsz
      split at hc
      · rename_i m c hsrc
        obtain ⟨hlen, hfirst⟩ := firstN_ok (P := P) hsrc hs r
        split at hc
        · cases hc
          simp only [VR] at hd; subst hd
          obtain ⟨us, f1, f2, f3⟩ := hfirst 0 (Nat.zero_le _)
          refine ⟨φ, .int .i64 ((0 : Nat) : Int), w, Phi.le_refl _, ?_, by simp [VR], r, Keep.refl _⟩
          have hmin : Nat.min m 0 = 0 := Nat.min_zero m
          simp only [Builtin.copy_, List.getElem?_toArray, List.getElem?_cons_zero, List.getElem?_cons_succ, Sem.run_bind, run_underlying hu, Result.andThen_ok, hlen, tsz_run hsz, hmin, f3, goInt, Sem.run_pure]
        · cases hc
          simp only [VR] at hd; obtain ⟨p, k, rfl⟩ := hd
          obtain ⟨us, f1, f2, f3⟩ := hfirst 0 (Nat.zero_le _)
          have hu0 : us = [] := List.eq_nil_of_length_eq_zero (by rw [f2]; simp)
          subst hu0
          refine ⟨φ, .int .i64 ((0 : Nat) : Int), w, Phi.le_refl _, ?_, by simp [VR], r, Keep.refl _⟩
          have hmin : Nat.min m 0 = 0 := Nat.min_zero m
          have hst : (storeCells p ([] : List Value)).run P w = .ok () w := rfl
          simp only [Builtin.copy_, List.getElem?_toArray, List.getElem?_cons_zero, List.getElem?_cons_succ, Sem.run_bind, run_underlying hu, Result.andThen_ok, hlen, tsz_run hsz, hmin, f3, hst, goInt, Sem.run_pure]
        · rename_i b off len cap op
          split at hc
          · rename_i h1 hw
            cases hc
            simp only [VR] at hd
            obtain ⟨y, κ, hφ, hd⟩ := hd
            have hd' : ∃ k, dv = .slice (some ⟨y, off, none⟩) len k := by rcases hd with ⟨_, _, hd⟩ | ⟨_, hd⟩ <;> exact ⟨_, hd⟩
            obtain ⟨k, rfl⟩ := hd'
            obtain ⟨us, f1, f2, f3⟩ := hfirst (Nat.min m len) (Nat.min_le_left _ _)
            obtain ⟨w', k1, k2, k3⟩ := writeA_ok (P := P) hw f1 hφ r
            refine ⟨φ, .int .i64 ((Nat.min m len : Nat) : Int), w', Phi.le_refl _, ?_, by simp [VR], k2, k3⟩
            simp only [Builtin.copy_, List.getElem?_toArray, List.getElem?_cons_zero, List.getElem?_cons_succ, Sem.run_bind, run_underlying hu, Result.andThen_ok, hlen, tsz_run hsz, f3, k1, goInt, Sem.run_pure]
          · cases hc
        · cases hc
      · cases hc
    · cases hc
  · cases hc
theorem clearA_ok {t ty : Nat} {a r : AV} {v : Value} {h' : AH} (hc : clearA P t a h = some (r, h')) (hv : VR φ a v) (rl : Rel w0 φ h w) :
    SemOK P w0 φ h w (Builtin.clear_ #[t] ty #[v]) r h' := by
  unfold clearA at hc
  split at hc
  · rename_i e hu
    split at hc
    · cases hc
      simp only [VR] at hv; subst hv
      refine ⟨φ, .tuple #[], w, Phi.le_refl _, ?_, by simp only [VR]; exact ⟨[], .nil, rfl⟩, rl, Keep.refl _⟩
      simp [Builtin.clear_, run_underlying hu, go_sem]
    · cases hc
      simp only [VR] at hv; obtain ⟨p, k, rfl⟩ := hv
      refine ⟨φ, .tuple #[], w, Phi.le_refl _, ?_, by simp only [VR]; exact ⟨[], .nil, rfl⟩, rl, Keep.refl _⟩
      simp [Builtin.clear_, run_underlying hu, go_sem]
    · rename_i b off len cap op
      split at hc
      · rename_i z hz
        split at hc
        · cases hc
        · rename_i y zs hcells
          cases hg : aggd z with
          | true => rw [hg] at hc; cases hc
          | false =>
            rw [hg, cond_false] at hc
            split at hc
            · rename_i h1 hw
              cases hc
              simp only [VR] at hv
              obtain ⟨x, κ, hφ, hv⟩ := hv
              have hv' : ∃ k, v = .slice (some ⟨x, off, none⟩) len k := by rcases hv with ⟨_, _, hv⟩ | ⟨_, hv⟩ <;> exact ⟨_, hv⟩
              obtain ⟨k, rfl⟩ := hv'
              obtain ⟨zv, z1, z2⟩ := zeroA_run (φ := φ) hz
              have zc := z2.cells hg
              rw [hcells] at zc
              have hzl : zv.cells.size = (y :: zs).length := by have := zc.length; simpa using this
              have hrow := zeroRowA_ok zc (by simp) (len * (y :: zs).length)
              have hz2 : ((Array.range (len * (y :: zs).length)).map fun i => zv.cells[i % zv.cells.size]!) = Builtin.zeroCells zv.cells len := by unfold Builtin.zeroCells; rw [hzl]
              rw [hz2] at hrow
              obtain ⟨w', k1, k2, k3⟩ := writeA_ok (P := P) hw hrow hφ rl
              refine ⟨φ, .tuple #[], w', Phi.le_refl _, ?_, by simp only [VR]; exact ⟨[], .nil, rfl⟩, k2, k3⟩
              cases len with
              | zero =>
                have : w' = w := by
                  have h0 : (Builtin.zeroCells zv.cells 0).toList = [] := by simp [Builtin.zeroCells]
                  rw [h0] at k1
                  simp only [storeCells, Sem.run_pure] at k1
                  cases k1; rfl
                subst this
                simp [Builtin.clear_, run_underlying hu, go_sem]
              | succ n =>
                simp only [Builtin.clear_, List.getElem?_toArray, List.getElem?_cons_zero, Sem.run_bind, run_underlying hu, Result.andThen_ok, z1, k1, Sem.run_pure]
            · cases hc
      · cases hc
    · cases hc
  · cases hc
end
end Ev
end Go.Proofs.YtaegacblpbbndaaDoor
end
