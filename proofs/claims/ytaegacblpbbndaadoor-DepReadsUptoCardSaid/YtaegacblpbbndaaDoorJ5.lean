/- The texts Ev6 of the proof, joined. Each says at its theorems what it proves. -/
import Derived.Test.YtaegacblpbbndaaDoorJ4
set_option linter.unusedSimpArgs false
set_option linter.unusedVariables false
section
namespace Go.Proofs.YtaegacblpbbndaaDoor
open Go Go.RowKit
set_option linter.unusedSimpArgs false
set_option linter.unusedVariables false
namespace Ev
section
variable {P : Program} {ev : Operand → Option AV} {φ : Phi} {ρ : Operand → Value}
theorem pureA_ok (hev : EVR φ ev ρ) {o : Oper} {a : AV} (h : pureA P ev o = some a) : PureOK P φ ρ o a := by
  obtain ⟨dst, op, type, pos, after, guard⟩ := o
  cases op <;> simp only [pureA, pPick, pBin, pConv, pIface, pFunc, pExtract, pNil, pFieldAddr, pField, pIndexAddr, pIndex, pSlice, pBuild, pAssert, pCall, reduceCtorEq] at h
  case move x => exact ⟨_, fun w => rfl, hev _ _ h⟩
  case assign x => exact ⟨_, fun w => rfl, hev _ _ h⟩
  case pick c x y =>
    split at h
    · rename_i t ht
      have hc := hev _ _ ht
      simp only [VR] at hc
      cases t
      · exact ⟨ρ y, fun w => by simp [execOp, hc, asBool, go_sem], hev _ _ h⟩
      · exact ⟨ρ x, fun w => by simp [execOp, hc, asBool, go_sem], hev _ _ h⟩
    · cases h
  case binOp op t x y ty =>
    split at h
    · rename_i a1 ha
      split at h
      · rename_i b1 hb
        split at h
        · exact scal_ok hev h
        · rename_i hn
          split at h
          · exact scalS_ok hev h
          · split at h
            · cases hc : (Region.isConst x || Region.isConst y) with
              | false => rw [hc] at h; cases h
              | true =>
                rw [hc, cond_true] at h
                have hx := hev _ _ ha
                have hy := hev _ _ hb
                simp only [VR] at hx hy
                unfold nilIfaces at h
                split at h
                · rename_i ms hu
                  have hg : ∀ w, (eqGuard op t x y .nilIface .nilIface).run P w = .ok () w := by
                    intro w
                    unfold eqGuard
                    cases op <;> first
                      | rfl
                      | (simp only [Bool.not_true, Bool.false_eq_true, if_false]; cases x <;> cases y <;> first | rfl | (simp [Region.isConst] at hc; done))
                  split at h
                  · cases h
                    refine ⟨.bool true, fun w => ?_, by simp [VR]⟩
                    simp only [execOp]
                    refine run_v ?_
                    simp only [hx, hy, Sem.run_bind, hg, Result.andThen_ok, binOp, Op.equal, Op.maxDepth]
                    unfold Op.equalIn
                    simp [run_underlying hu, go_sem]
                  · cases h
                    refine ⟨.bool false, fun w => ?_, by simp [VR]⟩
                    simp only [execOp]
                    refine run_v ?_
                    simp only [hx, hy, Sem.run_bind, hg, Result.andThen_ok, binOp, Op.equal, Op.maxDepth]
                    unfold Op.equalIn
                    simp [run_underlying hu, go_sem]
                  · cases h
                · cases h
            · obtain ⟨v, hv, hr⟩ := binA_ok h hn (hev _ _ ha) (hev _ _ hb) x y
              exact ⟨v, fun w => by simp only [execOp]; exact run_v (hv w), hr⟩
          · obtain ⟨v, hv, hr⟩ := binA_ok h hn (hev _ _ ha) (hev _ _ hb) x y
            exact ⟨v, fun w => by simp only [execOp]; exact run_v (hv w), hr⟩
      · cases h
    · cases h
  case unOp op t x => exact scal_ok hev h
  case convert s d x =>
    split at h
    · rename_i l hl
      split at h
      · rename_i hu1
        split at h
        · rename_i hu
          cases h
          have hx := hev _ _ hl
          simp only [VR] at hx
          refine ⟨.string ⟨l.toArray⟩, fun w => ?_, VR.ofStr _⟩
          simp [execOp, convert, hx, run_underlying hu1, run_underlying hu, go_sem]
        · cases h
      · cases h
    · exact scal_ok hev h
    · cases h
  case makeInterface t x =>
    split at h
    · cases h
    · rename_i d hd hu
      split at h
      · rename_i a1 ha
        cases h
        refine ⟨.iface t (ρ x), fun w => ?_, by simp only [VR]; exact ⟨_, hev _ _ ha, rfl⟩⟩
        simp only [execOp]
        refine run_v ?_
        cases d <;> first
          | (simp [Instr.makeInterface, run_underlying hu, go_sem]; done)
          | exact (hd _ rfl).elim
      · cases h
    · cases h
  case makeFunc fn first cap =>
    split at h
    · rename_i f
      split at h
      · rename_i l hl
        split at h
        · rename_i m hm
          cases h
          have h1 := evs_ok hev hl
          have h2 := evs_ok hev hm
          refine ⟨.func (.func f) (first.map ρ) (cap.map ρ), fun w => rfl, ?_⟩
          simp only [VR]
          refine ⟨_, _, h1, h2, ?_⟩
          congr 1 <;> (apply Array.ext'; simp)
        · cases h
      · cases h
    · cases h
  case extract x i =>
    split at h
    · rename_i l hl
      have hx := hev _ _ hl
      simp only [VR] at hx
      obtain ⟨vs, hvs, hx⟩ := hx
      obtain ⟨v, hv, hr⟩ := hvs.get h
      exact ⟨v, fun w => by simp [execOp, Instr.extract, hx, hv, go_sem], hr⟩
    · cases h
  case nilCheck x =>
    split at h
    · rename_i b off hl
      cases h
      have hx := hev _ _ hl
      have hx' := hx
      simp only [VR] at hx
      obtain ⟨y, κ, _, hx⟩ := hx
      exact ⟨ρ x, fun w => by simp [execOp, hx, go_sem], hx'⟩
    · cases h
  case fieldAddr s x f =>
    split at h
    · rename_i b off hl
      split at h
      · rename_i fields hu
        split at h
        · rename_i fd hf
          split at h
          · rename_i n hn
            cases h
            have hx := hev _ _ hl
            simp only [VR] at hx
            obtain ⟨y, κ, hφ, hx⟩ := hx
            refine ⟨.pointer (some ⟨y, off + fd.offset, none⟩), fun w => ?_, by simp only [VR]; exact ⟨y, κ, hφ, rfl⟩⟩
            have hf' : fields[f]? = some fd := by simpa using hf
            simp [execOp, Instr.fieldAt, Instr.sureAddr, fieldPlace, hx, run_underlying hu, hf', tsz_run hn, addr_add, go_sem]
          · cases h
        · cases h
      · cases h
    · cases h
  case field s x f =>
    split at h
    · rename_i l hl
      split at h
      · rename_i fields hu
        split at h
        · rename_i fd hf
          have hx := hev _ _ hl
          simp only [VR] at hx
          obtain ⟨vs, hvs, hx⟩ := hx
          obtain ⟨v, hv, hr⟩ := partA_run h hvs
          have hf' : fields[f]? = some fd := by simpa using hf
          refine ⟨v, fun w => ?_, hr⟩
          simp only [execOp]
          refine run_v ?_
          simp only [Instr.field, Sem.run_bind, run_underlying hu, Result.andThen_ok, hf', hx, asAgg, Sem.run_pure, hv]
        · cases h
      · cases h
    · cases h
  case indexAddr t x i =>
    split at h
    · rename_i a1 ha
      split at h
      · rename_i ia hia
        split at h
        · rename_i n hn
          obtain ⟨kd, hi⟩ := natOf_VR hn (hev _ _ hia)
          have hx := hev _ _ ha
          split at h
          · rename_i e hu
            split at h
            · rename_i size hs
              split at h
              · rename_i b off len cap op
                cases hb : Nat.blt n len with
                | false => rw [hb] at h; cases h
                | true =>
                  rw [hb, cond_true] at h; cases h
                  have hlt : n < len := by simpa [Nat.blt_eq] using hb
                  simp only [VR] at hx
                  obtain ⟨y, κ, hφ, hx⟩ := hx
                  have hx' : ∃ c, ρ x = .slice (some ⟨y, off, none⟩) len c := by
                    rcases hx with ⟨_, _, hx⟩ | ⟨_, hx⟩ <;> exact ⟨_, hx⟩
                  obtain ⟨c, hx'⟩ := hx'
                  refine ⟨.pointer (some ⟨y, off + n * size, none⟩), fun w => ?_, by simp only [VR]; exact ⟨y, κ, hφ, rfl⟩⟩
                  have h1 : (0 : Int) ≤ (n : Int) ∧ (n : Int) < (len : Int) := by omega
                  simp [execOp, Instr.indexAt, asIntOf, hx', hi, run_underlying hu, tsz_run hs, h1, hlt, addr_add, go_sem]
              · cases h
            · cases h
          · rename_i len e hu
            split at h
            · rename_i size hs
              split at h
              · rename_i b off
                cases hb : Nat.blt n len with
                | false => rw [hb] at h; cases h
                | true =>
                  rw [hb, cond_true] at h; cases h
                  have hlt : n < len := by simpa [Nat.blt_eq] using hb
                  simp only [VR] at hx
                  obtain ⟨y, κ, hφ, hx⟩ := hx
                  refine ⟨.pointer (some ⟨y, off + n * size, none⟩), fun w => ?_, by simp only [VR]; exact ⟨y, κ, hφ, rfl⟩⟩
                  have h1 : (0 : Int) ≤ (n : Int) ∧ (n : Int) < (len : Int) := by omega
                  simp [execOp, Instr.indexAt, Instr.sureAddr, asIntOf, hx, hi, run_underlying hu, tsz_run hs, h1, hlt, addr_add, go_sem]
              · cases h
            · cases h
          · cases h
        · cases h
      · cases h
    · cases h
  case index t x i =>
    split at h
    · rename_i a1 ha
      split at h
      · rename_i ia hia
        split at h
        · rename_i n hn
          obtain ⟨kd, hi⟩ := natOf_VR hn (hev _ _ hia)
          have hx := hev _ _ ha
          split at h
          · rename_i hu
            split at h
            · rename_i l
              split at h
              · rename_i u hlu
                cases h
                simp only [VR] at hx
                refine ⟨.int .u8 (u.toNat : Int), fun w => ?_, by simp [VR]⟩
                have hlt : n < l.length := (List.getElem?_eq_some_iff.1 hlu).1
                have hg : (⟨l.toArray⟩ : ByteArray)[n]? = some u := by
                  have hs : n < (⟨l.toArray⟩ : ByteArray).size := by rw [S_size]; exact hlt
                  rw [getElem?_pos _ n hs]
                  have : ((⟨l.toArray⟩ : ByteArray)[n]'hs) = l[n] := rfl
                  rw [this]; rw [List.getElem?_eq_getElem hlt] at hlu; exact hlu
                simp only [execOp]
                refine run_v ?_
                simp [Instr.index, asIntOf, hx, hi, run_underlying hu, hg, go_sem]
              · cases h
            · cases h
          · rename_i len e hu
            split at h
            · rename_i l
              split at h
              · rename_i size hs
                cases hb : Nat.blt n len with
                | false => rw [hb] at h; cases h
                | true =>
                  rw [hb, cond_true] at h
                  have hlt : n < len := by simpa [Nat.blt_eq] using hb
                  simp only [VR] at hx
                  obtain ⟨vs, hvs, hx⟩ := hx
                  obtain ⟨v, hv, hr⟩ := partA_run h hvs
                  refine ⟨v, fun w => ?_, hr⟩
                  have h1 : (0 : Int) ≤ (n : Int) ∧ (n : Int) < (len : Int) := by omega
                  simp only [execOp]
                  refine run_v ?_
                  simp only [Instr.index, asIntOf, hx, hi, Sem.run_bind, Sem.run_pure, Result.andThen_ok, run_underlying hu]
                  rw [if_pos h1]
                  simp only [Sem.run_bind, tsz_run hs, Result.andThen_ok, Int.toNat_natCast, hv]
              · cases h
            · cases h
          · cases h
        · cases h
      · cases h
    · cases h
  case slice t x lo hi mx =>
    split at h
    · rename_i a1 ha
      obtain ⟨v, hv, hr⟩ := sliceA_ok h (hev _ _ ha) (ob_ok hev lo) (ob_ok hev hi) (ob_ok hev mx)
      exact ⟨v, fun w => by simp only [execOp]; exact run_v (hv w), hr⟩
    · cases h
  case build t parts =>
    split at h
    · rename_i ps hps
      have hp := evp_ok hev hps
      obtain ⟨v, hv, hr⟩ := buildA_ok (qs := parts.map fun (i, x) => (i, ρ x)) h (by simpa using hp)
      exact ⟨v, fun w => by simp only [execOp]; exact run_v (hv w), hr⟩
    · cases h
  case typeAssert x xt t ok =>
    split at h
    · rename_i u a1 hl
      have hx := hev _ _ hl
      simp only [VR] at hx
      obtain ⟨y, hy, hx⟩ := hx
      split at h
      · cases h
      · rename_i d hd hu
        have hni : ∀ ms, d ≠ .interface ms := fun ms e => hd ms e
        rcases beq_cases u t with ⟨q, rfl⟩ | ⟨q, q'⟩
        · rw [q, cond_true] at h; cases h
          cases ok
          · refine ⟨y, fun w => ?_, hy⟩
            simp only [execOp]
            refine run_v ?_
            cases d <;> first
              | (simp [Instr.typeAssert, hx, run_underlying hu, go_sem]; done)
              | exact (hni _ rfl).elim
          · refine ⟨.tuple #[y, .bool true], fun w => ?_, by simp only [VR, cond_true]; exact ⟨[y, .bool true], .cons hy (.cons (by simp [VR]) .nil), rfl⟩⟩
            simp only [execOp]
            refine run_v ?_
            cases d <;> first
              | (simp [Instr.typeAssert, hx, run_underlying hu, go_sem]; done)
              | exact (hni _ rfl).elim
        · rw [q, cond_false] at h
          cases ok
          · cases h
          · rw [cond_true] at h
            split at h
            · rename_i z hz
              cases h
              obtain ⟨zv, hzv, hzr⟩ := zeroA_run (φ := φ) hz
              refine ⟨.tuple #[zv, .bool false], fun w => ?_, by simp only [VR]; exact ⟨[zv, .bool false], .cons hzr (.cons (by simp [VR]) .nil), rfl⟩⟩
              simp only [execOp]
              refine run_v ?_
              cases d <;> first
                | (simp [Instr.typeAssert, hx, run_underlying hu, q', hzv, go_sem]; done)
                | exact (hni _ rfl).elim
            · cases h
      · cases h
    · rename_i hl
      have hx := hev _ _ hl
      simp only [VR] at hx
      split at h
      · cases h
      · rename_i d hd hu
        cases ok
        · cases h
        · rw [cond_true] at h
          split at h
          · rename_i z hz
            cases h
            obtain ⟨zv, hzv, hzr⟩ := zeroA_run (φ := φ) hz
            refine ⟨.tuple #[zv, .bool false], fun w => ?_, by simp only [VR]; exact ⟨[zv, .bool false], .cons hzr (.cons (by simp [VR]) .nil), rfl⟩⟩
            simp only [execOp]
            refine run_v ?_
            cases d <;> first
              | (simp only [Instr.typeAssert, hx, Sem.run_bind, run_underlying hu, Result.andThen_ok, if_true, hzv, Sem.run_pure]; done)
              | exact (hd _ rfl).elim
          · cases h
      · cases h
    · cases h
  case call c =>
    obtain ⟨callee, args, argTypes⟩ := c
    simp only at h
    have lens : ∀ (x : Operand) (t : Nat), args.toList = [x] → argTypes.toList = [t] → args = #[x] ∧ argTypes = #[t] := fun x t h1 h2 => ⟨by apply Array.ext'; simpa using h1, by apply Array.ext'; simpa using h2⟩
    split at h
    · split at h
      · rename_i x hxs
        split at h
        · rename_i t hts
          obtain ⟨rfl, rfl⟩ := lens x t hxs hts
          split at h <;> first | cases h | skip
          · rename_i l hl
            split at h <;> first | cases h | skip
            rename_i hu
            have hx := hev _ _ hl
            simp only [VR] at hx
            exact ⟨.int .i64 (l.length : Int), fun w => by simp [execOp, resolve, invoke, builtin, Builtin.len_, hx, run_underlying hu, goInt, S_size, go_sem], by simp [VR]⟩
          · rename_i b off len cap op hl
            split at h <;> first | cases h | skip
            rename_i e hu
            have hx := hev _ _ hl
            simp only [VR] at hx
            obtain ⟨y, κ, hφ, hx⟩ := hx
            have hx' : ∃ c, ρ x = .slice (some ⟨y, off, none⟩) len c := by
              rcases hx with ⟨_, _, hx⟩ | ⟨_, hx⟩ <;> exact ⟨_, hx⟩
            obtain ⟨c, hx'⟩ := hx'
            exact ⟨.int .i64 (len : Int), fun w => by simp [execOp, resolve, invoke, builtin, Builtin.len_, hx', run_underlying hu, goInt, go_sem], by simp [VR]⟩
          · rename_i hl
            split at h <;> first | cases h | skip
            rename_i e hu
            have hx := hev _ _ hl
            simp only [VR] at hx
            exact ⟨.int .i64 ((0 : Nat) : Int), fun w => by simp [execOp, resolve, invoke, builtin, Builtin.len_, hx, run_underlying hu, goInt, go_sem], by simp [VR]⟩
          · rename_i hl
            split at h <;> first | cases h | skip
            rename_i e hu
            have hx := hev _ _ hl
            simp only [VR] at hx
            obtain ⟨p, c, hx⟩ := hx
            exact ⟨.int .i64 ((0 : Nat) : Int), fun w => by simp [execOp, resolve, invoke, builtin, Builtin.len_, hx, run_underlying hu, goInt, go_sem], by simp [VR]⟩
          · rename_i hl
            split at h <;> first | cases h | skip
            rename_i k e hu
            have hx := hev _ _ hl
            simp only [VR] at hx
            exact ⟨.int .i64 ((0 : Nat) : Int), fun w => by simp [execOp, resolve, invoke, builtin, Builtin.len_, hx, run_underlying hu, goInt, go_sem], by simp [VR]⟩
        · cases h
      · cases h
    · split at h
      · rename_i x hxs
        split at h
        · rename_i t hts
          obtain ⟨rfl, rfl⟩ := lens x t hxs hts
          split at h <;> first | cases h | skip
          · rename_i b off len cap hl
            split at h <;> first | cases h | skip
            rename_i e hu
            have hx := hev _ _ hl
            simp only [VR] at hx
            obtain ⟨y, κ, hφ, ⟨q, _⟩ | ⟨_, hx⟩⟩ := hx
            · cases q
            exact ⟨.int .i64 (cap : Int), fun w => by simp [execOp, resolve, invoke, builtin, Builtin.cap_, hx, run_underlying hu, goInt, go_sem], by simp [VR]⟩
          · rename_i hl
            split at h <;> first | cases h | skip
            rename_i e hu
            have hx := hev _ _ hl
            simp only [VR] at hx
            exact ⟨.int .i64 ((0 : Nat) : Int), fun w => by simp [execOp, resolve, invoke, builtin, Builtin.cap_, hx, run_underlying hu, goInt, go_sem], by simp [VR]⟩
        · cases h
      · cases h
    all_goals first | exact scal_ok hev h | exact externA_ok hev h | cases h
end
end Ev
end Go.Proofs.YtaegacblpbbndaaDoor
end
