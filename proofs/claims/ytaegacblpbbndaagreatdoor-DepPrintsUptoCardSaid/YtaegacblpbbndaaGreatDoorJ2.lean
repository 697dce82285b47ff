/- The texts Dep16, Pan, Dep17, Defer, Dep18, Dep19, Bld, Dep20, Dep21, Dep22, Trip, Dep23, OpenD, S1 of the proof, joined. Each says at its theorems what it proves. -/
import Derived.Test.YtaegacblpbbndaaGreatDoorJ1
import Derived.Defers
import Derived.Recover
import Derived.Lib.OthersKept
import Derived.Lib.AppendIntMem
import Derived.Laws.Externs
import Derived.OrdersHeld
import Derived.Test.YtaegacblpbbndaaGreatDoorRows
import Derived.ChangeArms
import Derived.WideShapes
import Derived.WalkKit
import Derived.WalkSpells
import Derived.ScopeJumps
import Derived.Orders
import Derived.Laws.CopyRow
import Derived.Below
import Derived.Deep.Quiet
set_option linter.unusedSimpArgs false
set_option linter.unusedVariables false
section
namespace Go.Proofs.YtaegacblpbbndaaGreatDoor
open Go Go.RowKit
def sumW : List (List UInt8) → Nat
 | [] => 0
 | a :: r => a.length + 1 + sumW r
theorem nextW_len (s : List UInt8) : (nextW s).1.length + (nextW s).2.length ≤ s.length := by
 have h := skipB_le s
 rw [next_nlen]
 simp only [List.length_take, List.length_drop]
 omega
theorem wordsN_len : ∀ (n : Nat) (s : List UInt8), (wordsN n s).length ≤ s.length ∧ sumW (wordsN n s) ≤ 2 * s.length ∧ ∀ x ∈ wordsN n s, x.length ≤ s.length
 | 0, s => by simp [wordsN, sumW]
 | n + 1, s => by
  unfold wordsN
  split
  ·simp [sumW]
  ·rename_i h
   have h1 := nextW_len s
   have h2 : 1 ≤ (nextW s).1.length := by cases hh : (nextW s).1 with
    | nil => exact absurd hh h
    | cons a r => simp
   obtain ⟨i1, i2, i3⟩ := wordsN_len n (nextW s).2
   refine ⟨by simp only [List.length_cons]; omega, by unfold sumW; omega, fun x hx => ?_⟩
   rcases List.mem_cons.1 hx with rfl | hx
   ·omega
   ·have := i3 x hx; omega
theorem wordsOf_len (s : List UInt8) : (wordsOf s).length ≤ s.length := (wordsN_len _ s).1
theorem wordsOf_sum (s : List UInt8) : sumW (wordsOf s) ≤ 2 * s.length := (wordsN_len _ s).2.1
theorem wordsOf_each (s : List UInt8) : ∀ x ∈ wordsOf s, x.length ≤ s.length := (wordsN_len _ s).2.2
theorem wsum_cons (a : List UInt8) (r : List (List UInt8)) (n : Nat) : ∀ k, wsum (a :: r) (n + 1) k = wsum r n k
 | 0 => rfl
 | k + 1 => by
  show wsum (a :: r) (n + 1) k + _ = wsum r n k + _
  rw [wsum_cons a r n k, show n + 1 + k = (n + k) + 1 by omega]
  rfl
theorem wsum_le : ∀ (ws : List (List UInt8)) (k : Nat), wsum ws 0 k ≤ sumW ws + k
 | _, 0 => Nat.zero_le _
 | [], k + 1 => by
  have := wsum_le [] k
  have e : (atW [] (0 + k)).length = 0 := by rw [atW_ge (Nat.zero_le _)]; rfl
  show wsum [] 0 k + ((atW [] (0 + k)).length + 1) ≤ sumW [] + (k + 1)
  omega
 | a :: r, k + 1 => by
  rw [show k + 1 = 1 + k by omega, wsum_add, wsum_cons]
  have := wsum_le r k
  have e : wsum (a :: r) 0 1 = a.length + 1 := by show 0 + ((atW (a :: r) (0 + 0)).length + 1) = _; rw [Nat.zero_add]; rfl
  rw [e]; unfold sumW; omega
theorem read_size {s : List UInt8} {t : DepT} {m d : Nat} (h : readF (wordsOf s) d 0 = some (t, m)) (hl : s.length ≤ 1048576) : t.size ≤ 4194304 := by
 have h1 := (readF_fits (wordsOf s) d 0 t m h).2
 have h2 := readF_le h
 have h3 := wsum_le (wordsOf s) (m - 0)
 have h4 := wordsOf_sum s
 have h5 := wordsOf_len s
 omega
abbrev zeroT : DepT := .mk 0 [] 0 [] []
def parseF (s : List UInt8) : DepT × Int := match readA (wordsOf s) 0 with
 | none => (zeroT, 50)
 | some (t, m) => if m = (wordsOf s).length then (if checkE t = 0 then (t, 0) else (zeroT, checkE t)) else (zeroT, 50)
def ParseIs (w' : World) (r : DepT × Int) (v : Value) : Prop := ∃ cs : List Value, v = .tuple #[.agg cs.toArray, .int .i64 r.2] ∧ DepC w' r.1 cs
theorem zero_depC {w : World} : DepC w zeroT [.int .i64 0, S [], .int .i64 0, S [], .slice none 0 0] := by
 unfold DepC
 exact ⟨_, [], rfl, ⟨by simp, .inl ⟨rfl, _, _, rfl⟩⟩, by unfold ArgsC; rfl⟩
theorem parseIs_zero {w' : World} {r : DepT × Int} {e : Int} (h : r = (zeroT, e)) : ParseIs w' r (.tuple #[zeroD, .int .i64 e]) := by
 subst h; exact ⟨_, rfl, zero_depC⟩
end Go.Proofs.YtaegacblpbbndaaGreatDoor
end
section
namespace Go.Proofs.YtaegacblpbbndaaGreatDoor
open Go Go.RowKit
def Pan (ch : List PanicEntry) (T : Value → World → Prop) (U : World → Prop) (e : Ending) (w : World) : Prop := (∃ v, e = .returned v ∧ T v w) ∨ (e = .panicked ch ∧ U w)
theorem Pan.pan {ch : List PanicEntry} {T : Value → World → Prop} {U : World → Prop} {w : World} (h : U w) : Pan ch T U (.panicked ch) w := .inr ⟨rfl, h⟩
theorem Pan.ret {ch : List PanicEntry} {T : Value → World → Prop} {U : World → Prop} {v : Value} {w : World} (h : T v w) : Pan ch T U (.returned v) w := .inl ⟨v, rfl, h⟩
section
variable {P : Program} {n : Nat} {Q : Exit → (Nat → Value) → World → Prop} {σ : Nat → Value} {w : World} {ch : List PanicEntry} {U : World → Prop}
theorem WO_callp {ops : Array Oper} {rest : List Oper} {f : FuncId} {ar : Array Operand} {ts : Array TypeId} {ty : TypeId} {ps : String} {dst : Option Tmp} {af : Array Edge} {g : Option (Nat × Bool)} {T : Value → World → Prop}
    (hg : gOk ops n σ g = true) (he : Enters P f) (hc : Calls P f (ar.toList.map (ev n σ)).toArray w (Pan ch T U))
    (pan : ∀ w', U w' → Q (.panic ch) σ w')
    (next : ∀ v w', T v w' → WO P n ops rest Q (updo σ dst v) w') :
    WO P n ops (⟨dst, .call { callee := .value (.func f), args := ar, argTypes := ts }, ty, ps, af, g⟩ :: rest) Q σ w := by
  refine WO_enter (R := Pan ch T U) (w' := w) (f := f) (args := (ar.toList.map (ev n σ)).toArray) hg ?_ hc ?_ ?_ ?_
  · have : ar.map (ev n σ) = (ar.toList.map (ev n σ)).toArray := by
      apply Array.ext'; simp
    simp only [execOp, resolve, ev, this]
    have := he (List.map (ev n σ) ar.toList).toArray w
    simp [Deferred.ofValue, invoke, go_sem, this]
  · rintro v w'' (⟨v', hv, hT⟩ | ⟨hv, _⟩)
    · cases hv; exact next v w'' hT
    · cases hv
  · rintro ch' w'' (⟨v', hv, hT⟩ | ⟨hv, hU⟩)
    · cases hv
    · cases hv; exact pan w'' hU
  · rintro w'' (⟨v', hv, hT⟩ | ⟨hv, hU⟩) <;> cases hv
theorem body_retp0 {fn : Func} {T : Value → World → Prop} {e : Exit} (he : e = .normal ∨ e = .ret) (hr : fn.results = #[]) (h : T (.tuple #[]) w) : bodyQ P n fn (Pan ch T U) e σ w := by
  rcases he with rfl | rfl <;> exact ⟨_, results_none hr _ _ _, .inl ⟨_, rfl, h⟩⟩
theorem body_retpc1 {fn : Func} {T : Value → World → Prop} {t : Nat} {ty e : TypeId} {d : TypeDesc} {b : Nat} {c : Array Value} {fr : Nat × Nat} (hr : fn.results = #[.cell t ty]) (h0 : sl n σ t = .pointer (some ⟨b, 0, none⟩))
    (ht : P.underlying ty = some d) (hd : plainD d = false) (hs : ∀ w, (sizeOf ty).run P w = .ok c.size w) (hb : w.heap[b]? = some (.cells c e fr))
    (h : T (.agg c) w) : bodyQ P n fn (Pan ch T U) .ret σ w := by
  have ha : (isAgg ty).run P w = .ok true w := by cases d <;> simp_all [isAgg, run_underlying ht, plainD]
  refine ⟨_, ?_, .inl ⟨_, rfl, h⟩⟩
  have hl := run_loadCells_list (P := P) w ⟨b, 0, none⟩ c.toList (fun j v hj => by
    have hadd : (⟨b, 0, none⟩ : Addr).add j = ⟨b, 0 + j, none⟩ := by unfold Addr.add; split <;> simp_all
    rw [hadd, Nat.zero_add]; exact cell_of hb (by simpa using hj))
  simp only [loadCells] at hl
  have hres : (results fn (mk n σ).tmps).run P w = ((asAddr ((mk n σ).tmps.getD t undef)).run P w).andThen fun a w₁ => (loadVar ty a).run P w₁ := by
    simp only [results, hr]
    simp [Sem.run_bind, Result.andThen]
  rw [hres, mk_getD, h0]
  simp only [Array.length_toList] at hl
  simp [asAddr, loadVar, loadCells, ha, hs, hl, go_sem]
end
theorem mk_of_put {n : Nat} {a : Act} {d : Option Tmp} {v : Value} (h : ∃ σ, a.put d v = mk n σ) : ∃ σ, a = mk n σ := by
  obtain ⟨σ, h⟩ := h
  have hs : a.tmps.size = n ∧ a.defers = [] := by
    cases d with
    | none => change a = _ at h; subst h; simp [mk]
    | some d =>
      have h1 := congrArg (fun a : Act => a.tmps.size) h; have h2 := congrArg Act.defers h
      simp [Act.put, mk] at h1 h2
      exact ⟨h1, h2⟩
  refine ⟨fun i => a.tmps.getD i undef, ?_⟩
  cases a with
  | mk tmps defers =>
    obtain ⟨rfl, rfl⟩ := hs
    unfold mk
    congr 1
    apply Array.ext
    · simp
    · intro i h1 h2
      simp only [Array.getElem_ofFn]
      rw [Array.getD_eq_getD_getElem?, Array.getElem?_eq_getElem h1]; rfl
def postZ (n : Nat) (Q : (Nat → Value) → World → Prop) (U : List PanicEntry → World → Prop) : Exit → Act → World → Prop := fun e a w =>
  (e = .normal ∧ ∃ σ, a = mk n σ ∧ Q σ w) ∨ ∃ c, e = .panic c ∧ (∃ σ, a = mk n σ) ∧ U c w
def WZ (P : Program) (n : Nat) (ops : Array Oper) (Q : (Nat → Value) → World → Prop) (U : List PanicEntry → World → Prop) (fuel : Nat) (listed : Array Bool) (σ : Nat → Value) (w : World) : Prop :=
  wpAny P .any ops (postZ n Q U) fuel listed (mk n σ) w
section
variable {P : Program} {n : Nat} {σ : Nat → Value} {w : World}
theorem W_orderZ {Q : Exit → (Nat → Value) → World → Prop} {id : Nat} {l : List Oper} (hm : P.follows .mixedOrders = true)
    (h : ∀ w', Drew w w' → WZ P n l.toArray (Q .normal) (fun c w => ∀ σ, Q (.panic c) σ w) l.length (Array.replicate l.length false) σ w') : W P n (.region id l.toArray true) Q σ w := by
  unfold W
  refine wp_mono (wp_region_any hm (h _ ⟨1, rfl⟩)) ?_
  rintro e a w (⟨rfl, σ', ha, hq⟩ | ⟨c, rfl, ⟨σ', ha⟩, hq⟩)
  · exact ⟨σ', ha, hq⟩
  · exact ⟨σ', ha, hq σ'⟩
variable {ops : Array Oper} {Q : (Nat → Value) → World → Prop} {U : List PanicEntry → World → Prop} {fuel : Nat} {listed : Array Bool}
theorem postZ_put {d : Option Tmp} {v : Value} (c : List PanicEntry) (a : Act) (w : World) (h : postZ n Q U (.panic c) (a.put d v) w) : postZ n Q U (.panic c) a w := by
  rcases h with ⟨h, _⟩ | ⟨c', hc, ha, hu⟩
  · cases h
  · exact .inr ⟨c', hc, mk_of_put ha, hu⟩
theorem WZ_take (i : Nat) {o : Oper} {v : Value} (hi : ops[i]? = some o) (hs : Region.noSelect ops = true) (hf : Region.free .any ops listed i = true) (hr : (Region.ready .any ops listed).contains i = true)
    (hg : gOk ops n σ o.guard = true) (h : ∀ w, (execOp (ev n σ) o).run P w = .ok (.value v) w) (next : WZ P n ops Q U fuel (listed.setIfInBounds i true) (updo σ o.dst v) w) : WZ P n ops Q U (fuel + 1) listed σ w := by
  unfold WZ
  refine wpAny_take hi hs hf hr postZ_put (.inl ⟨by rw [wanted_mk]; exact hg, fun w => by rw [mk_eval]; exact h w⟩) ?_
  rw [mk_put]; exact next
theorem WZ_done (hr : Region.ready .any ops listed = []) (h : Q σ w) : WZ P n ops Q U fuel listed σ w := by
  unfold WZ
  exact wpAny_done hr (.inl ⟨rfl, σ, rfl, h⟩) fuel
theorem wp_twoP {o : Oper} {a : Act} {w : World} {K K' : Act → World → Prop} {R R' : Exit → Act → World → Prop} (h : ∀ a w, K a w → K' a w) (hp : ∀ c a w, R (.panic c) a w → R' (.panic c) a w) (ho : ¬ LetsOut R) (hh : o.wp P a w K R) : o.wp P a w K' R' := by
  unfold Oper.wp at *
  generalize (execOp a.eval o).run P w = r at *
  cases r with
  | ok n w' =>
    cases n <;> simp only [Oper.upon] at hh ⊢ <;>
      first
        | exact h _ _ hh
        | exact Calls.mono hh (fun e w'' he => by cases e <;> first | exact h _ _ he | exact hp _ _ _ he | exact absurd he ho)
        | exact Rows.mono hh (fun _ _ he => h _ _ he)
  | halt x w' => cases x <;> simp only [Oper.upon] at hh ⊢ <;> exact hp _ _ _ hh
def oneZ (P : Program) (n : Nat) (ops : Array Oper) (Q : (Nat → Value) → World → Prop) (U : List PanicEntry → World → Prop) (fuel : Nat) (listed : Array Bool) (i : Nat) : Exit → (Nat → Value) → World → Prop :=
  fun e σ' w' => (e = .normal ∧ WZ P n ops Q U fuel (listed.setIfInBounds i true) σ' w') ∨ ∃ c, e = .panic c ∧ U c w'
theorem WZ_key {k : Nat} {o : Oper} (hk : ops[k]? = some o) (h : WO P n ops [o] (oneZ P n ops Q U fuel listed k) σ w) :
    wpOp P ops (postZ n Q U) k (wpAny P .any ops (postZ n Q U) fuel (listed.setIfInBounds k true)) (mk n σ) w := by
  unfold WO wpList at h
  unfold wpOp
  simp only [hk]
  have ho : ¬ LetsOut (lift n (oneZ P n ops Q U fuel listed k)) := by
    rintro ⟨a, w, σ', _, (⟨h, _⟩ | ⟨c, h, _⟩)⟩ <;> cases h
  have hkk : ∀ a w', wpList P ops (lift n (oneZ P n ops Q U fuel listed k)) [] a w' → wpAny P .any ops (postZ n Q U) fuel (listed.setIfInBounds k true) a w' := by
    rintro a w' ⟨σ', rfl, (⟨_, hx⟩ | ⟨c, hx, _⟩)⟩
    · unfold WZ at hx; exact hx
    · cases hx
  split at h
  · rename_i hw
    rw [if_pos hw]
    rcases h with h | ⟨_, h⟩
    · refine .inl (wp_twoP hkk (fun c a w hc => ?_) ho h)
      obtain ⟨σ', ha, (⟨hx, _⟩ | ⟨c', hx, hu⟩)⟩ := hc
      · cases hx
      · exact .inr ⟨c', hx, ⟨σ', ha⟩, hu⟩
    · exact absurd h ho
  · rename_i hw
    rw [if_neg hw]; exact hkk _ _ h
theorem WZ_only (i : Nat) {o : Oper} (hr : Region.ready .any ops listed = [i]) (hi : ops[i]? = some o) (h : WO P n ops [o] (oneZ P n ops Q U fuel listed i) σ w) : WZ P n ops Q U (fuel + 1) listed σ w := by
  unfold WZ
  refine wpAny_all hr (by simp) fun j hj => ?_
  obtain rfl : j = i := by simpa using hj
  exact WZ_key hi h
theorem WZ_two (i j : Nat) {oi oj : Oper} (hr : Region.ready .any ops listed = [i, j]) (hi : ops[i]? = some oi) (hj : ops[j]? = some oj)
    (h1 : WO P n ops [oi] (oneZ P n ops Q U fuel listed i) σ w) (h2 : WO P n ops [oj] (oneZ P n ops Q U fuel listed j) σ w) : WZ P n ops Q U (fuel + 1) listed σ w := by
  unfold WZ
  refine wpAny_all hr (by simp) fun k hk => ?_
  rcases List.mem_cons.1 hk with rfl | hk
  · exact WZ_key hi h1
  · obtain rfl : k = j := by simpa using hk
    exact WZ_key hj h2
end
attribute [irreducible] WZ
theorem oneZ_normal {P : Program} {n : Nat} {ops : Array Oper} {Q : (Nat → Value) → World → Prop} {U : List PanicEntry → World → Prop} {fuel : Nat} {listed : Array Bool} {i : Nat} {σ : Nat → Value} {w : World}
    (h : WZ P n ops Q U fuel (listed.setIfInBounds i true) σ w) : oneZ P n ops Q U fuel listed i .normal σ w := .inl ⟨rfl, h⟩
theorem oneZ_panic {P : Program} {n : Nat} {ops : Array Oper} {Q : (Nat → Value) → World → Prop} {U : List PanicEntry → World → Prop} {fuel : Nat} {listed : Array Bool} {i : Nat} {σ : Nat → Value} {w : World} {c : List PanicEntry}
    (h : U c w) : oneZ P n ops Q U fuel listed i (.panic c) σ w := .inr ⟨c, rfl, h⟩
def Rep (ws : List (List UInt8)) (n : Nat) (txt : List UInt8) : Prop := wordsOf txt = ws.drop (n + 1) ∧ txt.length ≤ 8388608
theorem next_nil {s : List UInt8} (h : (nextW s).1 = []) : (nextW s).2 = [] := by
  unfold nextW at h ⊢
  cases hs : skipB s with
  | nil => rfl
  | cons c r =>
    rw [hs] at h
    simp only at h
    split at h
    · cases h
    · rename_i hc
      have := scanW_pos (r := r) (skipB_head hs) (fun e => hc (.inr e))
      have := congrArg List.length h
      simp only [List.length_take, List.length_cons, List.length_nil] at this
      omega
theorem Rep.next {ws : List (List UInt8)} {n : Nat} {txt : List UInt8} (h : Rep ws n txt) : (nextW txt).1 = atW ws (n + 1) ∧ Rep ws (n + 1) (nextW txt).2 := by
  obtain ⟨h1, h2⟩ := h
  have hl := nextW_len txt
  rw [wordsOf_step] at h1
  split at h1
  · rename_i hn
    have hle : ws.length ≤ n + 1 := by
      have := congrArg List.length h1
      simp only [List.length_nil, List.length_drop] at this
      omega
    refine ⟨by rw [hn, atW_ge hle], ?_, by omega⟩
    rw [next_nil hn, wordsOf_nil, List.drop_of_length_le (by omega)]
  · have hlt : n + 1 < ws.length := by
      have := congrArg List.length h1
      simp only [List.length_cons, List.length_drop] at this
      omega
    rw [drop_nth hlt] at h1
    injection h1 with e1 e2
    exact ⟨by rw [e1, atW_lt hlt], e2, by omega⟩
theorem Rep.start (s : List UInt8) (hl : s.length ≤ 8388608) : (nextW s).1 = atW (wordsOf s) 0 ∧ Rep (wordsOf s) 0 (nextW s).2 := by
  have hl' := nextW_len s
  rw [wordsOf_step s]
  split
  · rename_i hn
    refine ⟨by rw [hn]; rfl, ?_, by omega⟩
    rw [next_nil hn, wordsOf_nil]; rfl
  · exact ⟨rfl, rfl, by omega⟩
theorem sign_idx (s : List UInt8) : (0 < zIdx signsL s 0 ↔ signN s ≠ 0) ∧ (signN s ≠ 0 → zIdx signsL s 0 = signN s) := by
  by_cases h0 : s = []
  · subst h0; decide
  by_cases h1 : s = [60]
  · subst h1; decide
  by_cases h2 : s = [61]
  · subst h2; decide
  by_cases h3 : s = [60, 61]
  · subst h3; decide
  by_cases h4 : s = [62]
  · subst h4; decide
  by_cases h5 : s = [60, 62]
  · subst h5; decide
  by_cases h6 : s = [62, 61]
  · subst h6; decide
  by_cases h7 : s = [60, 61, 62]
  · subst h7; decide
  simp only [signN, signsL, zIdx, h0, h1, h2, h3, h4, h5, h6, h7, if_false]
  decide
theorem kind_idx {s : List UInt8} (h : s ≠ []) : (0 < zIdx wordsL s 0 ↔ kindW s ≠ 0) ∧ (kindW s ≠ 0 → zIdx wordsL s 0 = kindW s) := by
  by_cases h0 : s = [97, 110, 100]
  · subst h0; decide
  by_cases h1 : s = [111, 114]
  · subst h1; decide
  by_cases h2 : s = [105, 102]
  · subst h2; decide
  by_cases h3 : s = [119, 105, 116, 104]
  · subst h3; decide
  by_cases h4 : s = [119, 105, 116, 104, 111, 117, 116]
  · subst h4; decide
  simp only [kindW, wordsL, zIdx, h, h0, h1, h2, h3, h4, if_false]
  decide
theorem drew_owns {w w' : World} {base : Nat} {e : TypeId} {size : Nat} {v : Value} {n : Nat} {xs : List Value} (h : Drew w w') (hw : w.ownsRow base e size v n xs) : w'.ownsRow base e size v n xs := by obtain ⟨m, rfl⟩ := h; exact hw
theorem grown_own {w w1 w2 : World} {b : Nat} {r : Option Nat} (g : w.grownBy w1 (some b)) (h : w1.grownBy w2 r) (hr : ∀ k, r = some k → w.heap.size ≤ k) : w.grownBy w2 (some b) :=
  ⟨h.os.trans g.os, h.tape.trans g.tape, h.output.trans g.output, Nat.le_trans g.size h.size, fun k hk hne =>
    (h.block k (Nat.lt_of_lt_of_le hk g.size) (fun e => by have := hr k e.symm; omega)).trans (g.block k hk hne)⟩
end Go.Proofs.YtaegacblpbbndaaGreatDoor
end
section
namespace Go.Proofs.YtaegacblpbbndaaGreatDoor
open Go Go.RowKit
theorem en_30 : Enters Tryz.prog 30 := enters_of Tryz.func30 (by kernel_rfl) rfl
theorem en_29 : Enters Tryz.prog 29 := enters_of Tryz.func29 (by kernel_rfl) rfl
def oddCh : List PanicEntry := [{ v := .iface 52 (.agg #[]), recovered := false }]
theorem readA_le {ws : List (List UInt8)} {n : Nat} {t : DepT} {m : Nat} (h : readA ws n = some (t, m)) : m ≤ ws.length + 2 := readF_le h
theorem readA_gt {ws : List (List UInt8)} {n : Nat} {t : DepT} {m : Nat} (h : readA ws n = some (t, m)) : n < m := readF_gt h
theorem takeR_any (ws : List (List UInt8)) (n b : Nat) (txt : List UInt8) (w : World) (hb : w.heap[b]? = some (.cells #[S (txt), S (atW ws n)] 56 (0, 0))) (hR : Rep ws n txt) :
  Calls Tryz.prog 48 #[.pointer (some ⟨b, 0, none⟩)] w (Ret fun v w' => v = S (atW ws n) ∧ ∃ tx, w'.heap[b]? = some (.cells #[S tx, S (atW ws (n + 1))] 56 (0, 0)) ∧ Rep ws (n + 1) tx ∧ w.grownBy w' (some b)) :=
 (take_any b txt (atW ws n) w hb hR.2).mono fun _ _ h => h.mono fun v w' ⟨h1, h2, h3⟩ => ⟨h1, _, by rw [h2, hR.next.1], hR.next.2, h3⟩
theorem nextR_any (ws : List (List UInt8)) (n b : Nat) (txt : List UInt8) (w : World) (hb : w.heap[b]? = some (.cells #[S (txt), S (atW ws n)] 56 (0, 0))) (hR : Rep ws n txt) :
  Calls Tryz.prog 28 #[.pointer (some ⟨b, 0, none⟩)] w (Ret fun v w' => ∃ tx, w'.heap[b]? = some (.cells #[S tx, S (atW ws (n + 1))] 56 (0, 0)) ∧ Rep ws (n + 1) tx ∧ w.grownBy w' (some b)) :=
 (next_any b txt (atW ws n) w hb hR.2).mono fun _ _ h => h.mono fun v w' ⟨h2, h3⟩ => ⟨_, by rw [h2, hR.next.1], hR.next.2, h3⟩
def OneT (ws : List (List UInt8)) (n b : Nat) (w : World) (v : Value) (w' : World) : Prop :=
 ∃ (k op : Int) (nm ev : List UInt8) (args : List DepT) (m : Nat) (tx : List UInt8) (sv : Value) (css : List (List Value)), readA ws n = some (.mk k nm op ev args, m) ∧ v = .agg #[.int .i64 k, S nm, .int .i64 op, S ev, sv] ∧
  RowX (fun k => w.heap.size ≤ k) w' sv args.length 5 css.flatten ∧ ArgsX (fun k => w.heap.size ≤ k) w' args css ∧ w'.heap[b]? = some (.cells #[S tx, S (atW ws m)] 56 (0, 0)) ∧ Rep ws m tx ∧ w.grownBy w' (some b)
def OneSaid (ws : List (List UInt8)) (n : Nat) : Prop := ∀ (b : Nat) (txt : List UInt8) (w : World), w.heap[b]? = some (.cells #[S (txt), S (atW ws n)] 56 (0, 0)) → Rep ws n txt →
  Calls Tryz.prog 29 #[.pointer (some ⟨b, 0, none⟩)] w (Pan oddCh (OneT ws n b w) (fun w' => readA ws n = none ∧ w.grownBy w' (some b)))
set_option maxHeartbeats 400000 in
set_option maxRecDepth 100000 in
theorem need_any (c : Bool) (w : World) :
  Calls Tryz.prog 30 #[(.bool c)] w (Pan oddCh (fun v w' => c = true ∧ v = .tuple #[] ∧ w = w') (fun w' => c = false ∧ w = w')) := by
 refine calls_W Tryz.func30 rfl Tryz.ntmps30 ?_
 refine W_seq ?_
 refine W_reg ?_
 refine WO_pure (v := (.bool c)) rfl rfl ?_
 refine WO_pure (v := (.bool (!c))) rfl rfl ?_
 refine WO_nil ?_
 refine W_cond (t := !c) rfl (fun c1 => ?_) (fun c1 => ?_)
 ·refine W_reg ?_
  refine WO_same (v := .agg #[]) rfl (by kernel_rfl) ?_
  refine WO_same (v := .iface 52 (.agg #[])) rfl (by kernel_rfl) ?_
  refine WO_panic (v := .iface 52 (.agg #[])) (w' := w) rfl (by kernel_rfl) ?_
  ·have hU : c = false ∧ w = w := ⟨by simpa using c1, rfl⟩
   exact (show Pan oddCh (fun v w' => c = true ∧ v = .tuple #[] ∧ w = w') (fun w' => c = false ∧ w = w') (.panicked oddCh) w from Pan.pan hU)
 ·refine W_skip ?_
  refine body_retp0 (fn := Tryz.f30) (by first | exact .inl rfl | exact .inr rfl) rfl ?_
  exact ⟨by simpa using c1, rfl, rfl⟩
set_option maxHeartbeats 4000000 in
set_option maxRecDepth 100000 in
theorem one_step (ws : List (List UInt8)) (hl : ws.length ≤ 8388608) (hx : ∀ x ∈ ws, x.length ≤ 8388608) (n : Nat) (hn : n ≤ ws.length + 3) (ih : ∀ n', n < n' → n' ≤ ws.length + 3 → OneSaid ws n') (b : Nat) (txt : List UInt8) (w : World) (hb : w.heap[b]? = some (.cells #[S (txt), S (atW ws n)] 56 (0, 0))) (hR : Rep ws n txt) :
  Calls Tryz.prog 29 #[(.pointer (some ⟨b, 0, none⟩))] w (Pan oddCh (fun v w' => OneT ws n b w v w') (fun w' => readA ws n = none ∧ w.grownBy w' (some b))) := by
 have hbl := heap_lt hb
 refine calls_W Tryz.func29 rfl Tryz.ntmps29 ?_
 refine W_seq ?_
 refine W_reg ?_
 refine WO_alloc (v := (.agg #[(.int .i64 0), (S []), (.int .i64 0), (S []), (.slice none 0 0)])) rfl (fun _ => by kernel_rfl) (fun w1 n1 => ?_)
 have e1 : w1.heap[w.heap.size]? = some (.cells #[(.int .i64 0), (S []), (.int .i64 0), (S []), (.slice none 0 0)] 24 (0, 0)) := n1.here
 have z1 := n1.size
 refine WO_nil ?_
 refine W_seq ?_
 refine W_reg ?_
 refine WO_pure (v := (.pointer (some ⟨b, 0, none⟩))) rfl rfl ?_
 refine WO_call rfl (by exact en_48) (takeR_any ws n b txt _ (n1.keep hb) hR) ?_
 rintro _ wt2 ⟨rfl, tx2, ht2, hr2, gt2⟩
 have z_t2 := gt2.size
 refine WO_pure (v := (S ((atW ws n)))) rfl rfl ?_
 refine WO_nil ?_
 refine W_seq ?_
 refine W_seq ?_
 refine W_reg ?_
 refine WO_pure (v := (S ((atW ws n)))) rfl rfl ?_
 refine WO_sneq (l1 := (atW ws n)) (l2 := [40]) rfl rfl rfl ?_
 refine WO_nil ?_
 refine W_cond (t := !decide ((atW ws n) = [40])) rfl (fun c1 => ?_) (fun c1 => ?_)
 ·refine W_seq ?_
  refine W_reg ?_
  have hw : atW ws n ≠ [40] := by simpa using c1
  refine WO_pure (v := (S ((atW ws n)))) rfl rfl ?_
  refine WO_call rfl (by exact en_41) (name_any (atW ws n) _ (by have := atW_len hx n; omega)) ?_
  rintro _ wn3 ⟨rfl, bn3⟩
  have zn3 := bn3.size
  refine WO_callp rfl (by exact en_30) (need_any (nameB (atW ws n)) _) (by rintro wp ⟨n_ok, rfl⟩; have hU : readA ws n = none ∧ w.grownBy wn3 (some b) := ⟨by rw [readA_name hw]; unfold nameF; rw [if_pos n_ok], (grown_bel (World.grownBy.trans (grown_new (grown_refl w _) n1) gt2) bn3)⟩; exact (show Pan oddCh (fun v w' => OneT ws n b w v w') (fun w' => readA ws n = none ∧ w.grownBy w' (some b)) (.panicked oddCh) wn3 from Pan.pan hU)) ?_
  rintro _ _ ⟨n_ok, rfl, rfl⟩
  refine WO_nil ?_
  refine W_seq ?_
  refine W_reg ?_
  refine WO_pure (v := (S ((atW ws n)))) rfl rfl ?_
  refine WO_same (v := (.agg #[(.int .i64 1), (S ((atW ws n))), (.int .i64 0), (S []), (.slice none 0 0)])) rfl (by kernel_rfl) ?_
  refine WO_alloc (v := (.agg #[(.int .i64 0), (S []), (.int .i64 0), (S []), (.slice none 0 0)])) rfl (fun _ => by kernel_rfl) (fun w4 n4 => ?_)
  have e4 : w4.heap[wn3.heap.size]? = some (.cells #[(.int .i64 0), (S []), (.int .i64 0), (S []), (.slice none 0 0)] 24 (0, 0)) := n4.here
  have z4 := n4.size
  have p5 := e4
  refine WO_storerow (b := wn3.heap.size) (o := 0) (c' := #[(.int .i64 1), (S ((atW ws n))), (.int .i64 0), (S []), (.slice none 0 0)]) rfl rfl rfl (fun _ => by kernel_rfl) (by simp [Value.oneCell']) p5 (by simp) (fun w5 u5 => ?_)
  have e5 : w5.heap[wn3.heap.size]? = some (.cells #[(.int .i64 1), (S ((atW ws n))), (.int .i64 0), (S []), (.slice none 0 0)] 24 (0, 0)) := u5.here
  have z5 := u5.size
  refine WO_nil ?_
  refine W_seq ?_
  refine W_seq ?_
  refine W_order (by kernel_rfl) (fun w6 d6 => ?_)
  have z6 := d6.ext.size
  refine WX_take 1 rfl (by kernel_rfl) (by kernel_rfl) (by kernel_rfl) rfl (fun _ => pure_run (v := (.pointer (some ⟨b, 0, none⟩))) rfl) ?_
  refine WX_take 2 rfl (by kernel_rfl) (by kernel_rfl) (by kernel_rfl) rfl (fun _ => pure_run (v := (.pointer (some ⟨b, 0, none⟩))) rfl) ?_
  refine WX_take 3 rfl (by kernel_rfl) (by kernel_rfl) (by kernel_rfl) rfl (v := (.pointer (some ⟨b, 1, none⟩))) (fun _ => by kernel_rfl) ?_
  refine WX_two 0 4 (by kernel_rfl) rfl rfl ?_ ?_
  ·refine WO_call rfl (by exact en_32) (signs_any _) ?_
   rintro ls7 wl_7 ⟨hl7, bl7⟩
   have zl7 := bl7.size
   refine WO_nil (⟨rfl, ?_⟩)
   refine WX_only 4 (by kernel_rfl) rfl ?_
   refine WO_load (a := ⟨b, 1, none⟩) (v := (S ((atW ws (n + 1))))) rfl rfl Tryz.underlying9 rfl (cell_of (below_keep bl7 (drew_keep d6 (u5.keep (n4.keep (below_keep bn3 ht2)) (heap_ne (n4.keep (below_keep bn3 ht2)) p5 (by decide))))) rfl) ?_
   refine WO_nil (⟨rfl, ?_⟩)
   refine WX_only 5 (by kernel_rfl) rfl ?_
   refine WO_call rfl (by exact en_49) (index_any _ _ (atW ws (n + 1)) _ hl7 (by decide)) ?_
   rintro _ _ ⟨rfl, rfl⟩
   refine WO_nil (⟨rfl, ?_⟩)
   refine WX_take 6 rfl (by kernel_rfl) (by kernel_rfl) (by kernel_rfl) rfl (fun _ => pure_run (v := (.int .i64 (zIdx signsL (atW ws (n + 1)) 0))) rfl) ?_
   refine WX_done (by kernel_rfl) ?_
   refine W_seq ?_
   refine W_reg ?_
   have hsi := sign_idx (atW ws (n + 1))
   have hsg0 : ¬ 0 < zIdx signsL (atW ws (n + 1)) 0 → signN (atW ws (n + 1)) = 0 := fun h => Decidable.byContradiction fun h2 => h (hsi.1.2 h2)
   have hsg1 : 0 < zIdx signsL (atW ws (n + 1)) 0 → signN (atW ws (n + 1)) ≠ 0 := hsi.1.1
   have hsg2 := hsi.2
   refine WO_pure (v := (.int .i64 (zIdx signsL (atW ws (n + 1)) 0))) rfl rfl ?_
   refine WO_pure (v := (.bool (decide (0 < (zIdx signsL (atW ws (n + 1)) 0))))) rfl rfl ?_
   refine WO_nil ?_
   refine W_if (p := 0 < (zIdx signsL (atW ws (n + 1)) 0)) rfl (fun c2 => ?_) (fun c2 => ?_)
   ·refine W_seq ?_
    refine W_reg ?_
    refine WO_pure (v := (.pointer (some ⟨b, 0, none⟩))) rfl rfl ?_
    refine WO_call rfl (by exact en_28) (nextR_any ws (n + 1) b tx2 _ (below_keep bl7 (drew_keep d6 (u5.keep (n4.keep (below_keep bn3 ht2)) (heap_ne (n4.keep (below_keep bn3 ht2)) p5 (by decide))))) hr2) ?_
    rintro _ wt8 ⟨tx8, ht8, hr8, gt8⟩
    have z_t8 := gt8.size
    refine WO_nil ?_
    refine W_reg ?_
    refine WO_pure (v := (.int .i64 (zIdx signsL (atW ws (n + 1)) 0))) rfl rfl ?_
    refine WO_pure (v := (.pointer (some ⟨b, 0, none⟩))) rfl rfl ?_
    refine WO_call rfl (by exact en_48) (takeR_any ws (n + 2) b tx8 _ ht8 hr8) ?_
    rintro _ wt9 ⟨rfl, tx9, ht9, hr9, gt9⟩
    have z_t9 := gt9.size
    refine WO_same (v := (.pointer (some ⟨wn3.heap.size, 2, none⟩))) rfl (by kernel_rfl) ?_
    have p10 := (grown_keep gt9 (grown_keep gt8 (below_keep bl7 (drew_keep d6 e5)) (by first | assumption | omega | (intro e; have e2 := Option.some.inj e; omega) | (simp; omega))) (by first | assumption | omega | (intro e; have e2 := Option.some.inj e; omega) | (simp; omega)))
    refine WO_store (b := wn3.heap.size) (o := 2) (v := (.int .i64 (zIdx signsL (atW ws (n + 1)) 0))) rfl rfl rfl (fun _ => by kernel_rfl) rfl p10 (by simp) (fun w10 u10 => ?_)
    have e10 : w10.heap[wn3.heap.size]? = some (.cells #[(.int .i64 1), (S ((atW ws n))), (.int .i64 (zIdx signsL (atW ws (n + 1)) 0)), (S []), (.slice none 0 0)] 24 (0, 0)) := u10.here
    have z10 := u10.size
    refine WO_same (v := (.pointer (some ⟨wn3.heap.size, 3, none⟩))) rfl (by kernel_rfl) ?_
    have p11 := e10
    refine WO_store (b := wn3.heap.size) (o := 3) (v := (S ((atW ws (n + 2))))) rfl rfl rfl (fun _ => by kernel_rfl) rfl p11 (by simp) (fun w11 u11 => ?_)
    have e11 : w11.heap[wn3.heap.size]? = some (.cells #[(.int .i64 1), (S ((atW ws n))), (.int .i64 (zIdx signsL (atW ws (n + 1)) 0)), (S ((atW ws (n + 2)))), (.slice none 0 0)] 24 (0, 0)) := u11.here
    have z11 := u11.size
    refine WO_nil ?_
    refine W_seq ?_
    refine W_reg ?_
    refine WO_loadrow (b := wn3.heap.size) (o := 0) (m := 5) (c := #[(.int .i64 1), (S ((atW ws n))), (.int .i64 (zIdx signsL (atW ws (n + 1)) 0)), (S ((atW ws (n + 2)))), (.slice none 0 0)]) rfl rfl Tryz.underlying24 rfl (fun _ => by kernel_rfl) e11 (by simp) ?_
    refine WO_eq 32 (v' := (.agg #[(.int .i64 1), (S ((atW ws n))), (.int .i64 (zIdx signsL (atW ws (n + 1)) 0)), (S ((atW ws (n + 2)))), (.slice none 0 0)])) rfl rfl ?_
    have p12 := (u11.keep (u10.keep (grown_keep gt9 (grown_keep gt8 (below_keep bl7 (drew_keep d6 (u5.keep (n4.keep (below_keep bn3 (grown_keep gt2 e1 (by first | assumption | omega | (intro e; have e2 := Option.some.inj e; omega) | (simp; omega))))) (by first | assumption | omega | (simp; omega))))) (by first | assumption | omega | (intro e; have e2 := Option.some.inj e; omega) | (simp; omega))) (by first | assumption | omega | (intro e; have e2 := Option.some.inj e; omega) | (simp; omega))) (by first | assumption | omega | (simp; omega))) (by first | assumption | omega | (simp; omega)))
    refine WO_storerow (b := w.heap.size) (o := 0) (c' := #[(.int .i64 1), (S ((atW ws n))), (.int .i64 (zIdx signsL (atW ws (n + 1)) 0)), (S ((atW ws (n + 2)))), (.slice none 0 0)]) rfl rfl rfl (fun _ => by kernel_rfl) (by simp [Value.oneCell']) p12 (by simp) (fun w12 u12 => ?_)
    have e12 : w12.heap[w.heap.size]? = some (.cells #[(.int .i64 1), (S ((atW ws n))), (.int .i64 (zIdx signsL (atW ws (n + 1)) 0)), (S ((atW ws (n + 2)))), (.slice none 0 0)] 24 (0, 0)) := u12.here
    have z12 := u12.size
    refine WO_nil ?_
    refine W_ret ?_
    refine body_retpc1 (b := w.heap.size) (c := #[(.int .i64 1), (S ((atW ws n))), (.int .i64 (zIdx signsL (atW ws (n + 1)) 0)), (S ((atW ws (n + 2)))), (.slice none 0 0)]) rfl rfl Tryz.underlying24 rfl (fun _ => by kernel_rfl) e12 ?_
    have c2 := c2
    refine ⟨_, _, _, _, [], (n + 3), _, _, [], by rw [readA_name hw]; unfold nameF; rw [if_neg (by simp [n_ok]), if_neg (hsg1 c2), ← hsg2 (hsg1 c2)], rfl, RowX.nil, ArgsX.nil, (u12.keep (u11.keep (u10.keep ht9 (heap_ne ht9 p10 (by decide))) (heap_ne (u10.keep ht9 (heap_ne ht9 p10 (by decide))) p11 (by decide))) (heap_ne (u11.keep (u10.keep ht9 (heap_ne ht9 p10 (by decide))) (heap_ne (u10.keep ht9 (heap_ne ht9 p10 (by decide))) p11 (by decide))) p12 (by decide))), hr9, (grown_upd (grown_upd (grown_upd (World.grownBy.trans (World.grownBy.trans (grown_bel (grown_drew (grown_upd (grown_new (grown_bel (World.grownBy.trans (grown_new (grown_refl w _) n1) gt2) bn3) n4) u5 (by first | (left; omega) | (right; rfl))) d6) bl7) gt8) gt9) u10 (by first | (left; omega) | (right; rfl))) u11 (by first | (left; omega) | (right; rfl))) u12 (by first | (left; omega) | (right; rfl)))⟩
   ·refine W_skip ?_
    refine W_seq ?_
    refine W_reg ?_
    refine WO_loadrow (b := wn3.heap.size) (o := 0) (m := 5) (c := #[(.int .i64 1), (S ((atW ws n))), (.int .i64 0), (S []), (.slice none 0 0)]) rfl rfl Tryz.underlying24 rfl (fun _ => by kernel_rfl) (below_keep bl7 (drew_keep d6 e5)) (by simp) ?_
    refine WO_eq 32 (v' := (.agg #[(.int .i64 1), (S ((atW ws n))), (.int .i64 0), (S []), (.slice none 0 0)])) rfl rfl ?_
    have p13 := (below_keep bl7 (drew_keep d6 (u5.keep (n4.keep (below_keep bn3 (grown_keep gt2 e1 (by first | assumption | omega | (intro e; have e2 := Option.some.inj e; omega) | (simp; omega))))) (by first | assumption | omega | (simp; omega)))))
    refine WO_storerow (b := w.heap.size) (o := 0) (c' := #[(.int .i64 1), (S ((atW ws n))), (.int .i64 0), (S []), (.slice none 0 0)]) rfl rfl rfl (fun _ => by kernel_rfl) (by simp [Value.oneCell']) p13 (by simp) (fun w13 u13 => ?_)
    have e13 : w13.heap[w.heap.size]? = some (.cells #[(.int .i64 1), (S ((atW ws n))), (.int .i64 0), (S []), (.slice none 0 0)] 24 (0, 0)) := u13.here
    have z13 := u13.size
    refine WO_nil ?_
    refine W_ret ?_
    refine body_retpc1 (b := w.heap.size) (c := #[(.int .i64 1), (S ((atW ws n))), (.int .i64 0), (S []), (.slice none 0 0)]) rfl rfl Tryz.underlying24 rfl (fun _ => by kernel_rfl) e13 ?_
    have c2 := c2
    refine ⟨_, _, _, _, [], (n + 1), _, _, [], by rw [readA_name hw]; unfold nameF; rw [if_neg (by simp [n_ok]), if_pos (hsg0 c2)], rfl, RowX.nil, ArgsX.nil, (u13.keep (below_keep bl7 (drew_keep d6 (u5.keep (n4.keep (below_keep bn3 ht2)) (heap_ne (n4.keep (below_keep bn3 ht2)) p5 (by decide))))) (heap_ne (below_keep bl7 (drew_keep d6 (u5.keep (n4.keep (below_keep bn3 ht2)) (heap_ne (n4.keep (below_keep bn3 ht2)) p5 (by decide))))) p13 (by decide))), hr2, (grown_upd (grown_bel (grown_drew (grown_upd (grown_new (grown_bel (World.grownBy.trans (grown_new (grown_refl w _) n1) gt2) bn3) n4) u5 (by first | (left; omega) | (right; rfl))) d6) bl7) u13 (by first | (left; omega) | (right; rfl)))⟩
  ·refine WO_load (a := ⟨b, 1, none⟩) (v := (S ((atW ws (n + 1))))) rfl rfl Tryz.underlying9 rfl (cell_of (drew_keep d6 (u5.keep (n4.keep (below_keep bn3 ht2)) (heap_ne (n4.keep (below_keep bn3 ht2)) p5 (by decide)))) rfl) ?_
   refine WO_nil (⟨rfl, ?_⟩)
   refine WX_only 0 (by kernel_rfl) rfl ?_
   refine WO_call rfl (by exact en_32) (signs_any _) ?_
   rintro ls14 wl_14 ⟨hl14, bl14⟩
   have zl14 := bl14.size
   refine WO_nil (⟨rfl, ?_⟩)
   refine WX_only 5 (by kernel_rfl) rfl ?_
   refine WO_call rfl (by exact en_49) (index_any _ _ (atW ws (n + 1)) _ hl14 (by decide)) ?_
   rintro _ _ ⟨rfl, rfl⟩
   refine WO_nil (⟨rfl, ?_⟩)
   refine WX_take 6 rfl (by kernel_rfl) (by kernel_rfl) (by kernel_rfl) rfl (fun _ => pure_run (v := (.int .i64 (zIdx signsL (atW ws (n + 1)) 0))) rfl) ?_
   refine WX_done (by kernel_rfl) ?_
   refine W_seq ?_
   refine W_reg ?_
   have hsi := sign_idx (atW ws (n + 1))
   have hsg0 : ¬ 0 < zIdx signsL (atW ws (n + 1)) 0 → signN (atW ws (n + 1)) = 0 := fun h => Decidable.byContradiction fun h2 => h (hsi.1.2 h2)
   have hsg1 : 0 < zIdx signsL (atW ws (n + 1)) 0 → signN (atW ws (n + 1)) ≠ 0 := hsi.1.1
   have hsg2 := hsi.2
   refine WO_pure (v := (.int .i64 (zIdx signsL (atW ws (n + 1)) 0))) rfl rfl ?_
   refine WO_pure (v := (.bool (decide (0 < (zIdx signsL (atW ws (n + 1)) 0))))) rfl rfl ?_
   refine WO_nil ?_
   refine W_if (p := 0 < (zIdx signsL (atW ws (n + 1)) 0)) rfl (fun c3 => ?_) (fun c3 => ?_)
   ·refine W_seq ?_
    refine W_reg ?_
    refine WO_pure (v := (.pointer (some ⟨b, 0, none⟩))) rfl rfl ?_
    refine WO_call rfl (by exact en_28) (nextR_any ws (n + 1) b tx2 _ (below_keep bl14 (drew_keep d6 (u5.keep (n4.keep (below_keep bn3 ht2)) (heap_ne (n4.keep (below_keep bn3 ht2)) p5 (by decide))))) hr2) ?_
    rintro _ wt15 ⟨tx15, ht15, hr15, gt15⟩
    have z_t15 := gt15.size
    refine WO_nil ?_
    refine W_reg ?_
    refine WO_pure (v := (.int .i64 (zIdx signsL (atW ws (n + 1)) 0))) rfl rfl ?_
    refine WO_pure (v := (.pointer (some ⟨b, 0, none⟩))) rfl rfl ?_
    refine WO_call rfl (by exact en_48) (takeR_any ws (n + 2) b tx15 _ ht15 hr15) ?_
    rintro _ wt16 ⟨rfl, tx16, ht16, hr16, gt16⟩
    have z_t16 := gt16.size
    refine WO_same (v := (.pointer (some ⟨wn3.heap.size, 2, none⟩))) rfl (by kernel_rfl) ?_
    have p17 := (grown_keep gt16 (grown_keep gt15 (below_keep bl14 (drew_keep d6 e5)) (by first | assumption | omega | (intro e; have e2 := Option.some.inj e; omega) | (simp; omega))) (by first | assumption | omega | (intro e; have e2 := Option.some.inj e; omega) | (simp; omega)))
    refine WO_store (b := wn3.heap.size) (o := 2) (v := (.int .i64 (zIdx signsL (atW ws (n + 1)) 0))) rfl rfl rfl (fun _ => by kernel_rfl) rfl p17 (by simp) (fun w17 u17 => ?_)
    have e17 : w17.heap[wn3.heap.size]? = some (.cells #[(.int .i64 1), (S ((atW ws n))), (.int .i64 (zIdx signsL (atW ws (n + 1)) 0)), (S []), (.slice none 0 0)] 24 (0, 0)) := u17.here
    have z17 := u17.size
    refine WO_same (v := (.pointer (some ⟨wn3.heap.size, 3, none⟩))) rfl (by kernel_rfl) ?_
    have p18 := e17
    refine WO_store (b := wn3.heap.size) (o := 3) (v := (S ((atW ws (n + 2))))) rfl rfl rfl (fun _ => by kernel_rfl) rfl p18 (by simp) (fun w18 u18 => ?_)
    have e18 : w18.heap[wn3.heap.size]? = some (.cells #[(.int .i64 1), (S ((atW ws n))), (.int .i64 (zIdx signsL (atW ws (n + 1)) 0)), (S ((atW ws (n + 2)))), (.slice none 0 0)] 24 (0, 0)) := u18.here
    have z18 := u18.size
    refine WO_nil ?_
    refine W_seq ?_
    refine W_reg ?_
    refine WO_loadrow (b := wn3.heap.size) (o := 0) (m := 5) (c := #[(.int .i64 1), (S ((atW ws n))), (.int .i64 (zIdx signsL (atW ws (n + 1)) 0)), (S ((atW ws (n + 2)))), (.slice none 0 0)]) rfl rfl Tryz.underlying24 rfl (fun _ => by kernel_rfl) e18 (by simp) ?_
    refine WO_eq 32 (v' := (.agg #[(.int .i64 1), (S ((atW ws n))), (.int .i64 (zIdx signsL (atW ws (n + 1)) 0)), (S ((atW ws (n + 2)))), (.slice none 0 0)])) rfl rfl ?_
    have p19 := (u18.keep (u17.keep (grown_keep gt16 (grown_keep gt15 (below_keep bl14 (drew_keep d6 (u5.keep (n4.keep (below_keep bn3 (grown_keep gt2 e1 (by first | assumption | omega | (intro e; have e2 := Option.some.inj e; omega) | (simp; omega))))) (by first | assumption | omega | (simp; omega))))) (by first | assumption | omega | (intro e; have e2 := Option.some.inj e; omega) | (simp; omega))) (by first | assumption | omega | (intro e; have e2 := Option.some.inj e; omega) | (simp; omega))) (by first | assumption | omega | (simp; omega))) (by first | assumption | omega | (simp; omega)))
    refine WO_storerow (b := w.heap.size) (o := 0) (c' := #[(.int .i64 1), (S ((atW ws n))), (.int .i64 (zIdx signsL (atW ws (n + 1)) 0)), (S ((atW ws (n + 2)))), (.slice none 0 0)]) rfl rfl rfl (fun _ => by kernel_rfl) (by simp [Value.oneCell']) p19 (by simp) (fun w19 u19 => ?_)
    have e19 : w19.heap[w.heap.size]? = some (.cells #[(.int .i64 1), (S ((atW ws n))), (.int .i64 (zIdx signsL (atW ws (n + 1)) 0)), (S ((atW ws (n + 2)))), (.slice none 0 0)] 24 (0, 0)) := u19.here
    have z19 := u19.size
    refine WO_nil ?_
    refine W_ret ?_
    refine body_retpc1 (b := w.heap.size) (c := #[(.int .i64 1), (S ((atW ws n))), (.int .i64 (zIdx signsL (atW ws (n + 1)) 0)), (S ((atW ws (n + 2)))), (.slice none 0 0)]) rfl rfl Tryz.underlying24 rfl (fun _ => by kernel_rfl) e19 ?_
    have c2 := c3
    refine ⟨_, _, _, _, [], (n + 3), _, _, [], by rw [readA_name hw]; unfold nameF; rw [if_neg (by simp [n_ok]), if_neg (hsg1 c2), ← hsg2 (hsg1 c2)], rfl, RowX.nil, ArgsX.nil, (u19.keep (u18.keep (u17.keep ht16 (heap_ne ht16 p17 (by decide))) (heap_ne (u17.keep ht16 (heap_ne ht16 p17 (by decide))) p18 (by decide))) (heap_ne (u18.keep (u17.keep ht16 (heap_ne ht16 p17 (by decide))) (heap_ne (u17.keep ht16 (heap_ne ht16 p17 (by decide))) p18 (by decide))) p19 (by decide))), hr16, (grown_upd (grown_upd (grown_upd (World.grownBy.trans (World.grownBy.trans (grown_bel (grown_drew (grown_upd (grown_new (grown_bel (World.grownBy.trans (grown_new (grown_refl w _) n1) gt2) bn3) n4) u5 (by first | (left; omega) | (right; rfl))) d6) bl14) gt15) gt16) u17 (by first | (left; omega) | (right; rfl))) u18 (by first | (left; omega) | (right; rfl))) u19 (by first | (left; omega) | (right; rfl)))⟩
   ·refine W_skip ?_
    refine W_seq ?_
    refine W_reg ?_
    refine WO_loadrow (b := wn3.heap.size) (o := 0) (m := 5) (c := #[(.int .i64 1), (S ((atW ws n))), (.int .i64 0), (S []), (.slice none 0 0)]) rfl rfl Tryz.underlying24 rfl (fun _ => by kernel_rfl) (below_keep bl14 (drew_keep d6 e5)) (by simp) ?_
    refine WO_eq 32 (v' := (.agg #[(.int .i64 1), (S ((atW ws n))), (.int .i64 0), (S []), (.slice none 0 0)])) rfl rfl ?_
    have p20 := (below_keep bl14 (drew_keep d6 (u5.keep (n4.keep (below_keep bn3 (grown_keep gt2 e1 (by first | assumption | omega | (intro e; have e2 := Option.some.inj e; omega) | (simp; omega))))) (by first | assumption | omega | (simp; omega)))))
    refine WO_storerow (b := w.heap.size) (o := 0) (c' := #[(.int .i64 1), (S ((atW ws n))), (.int .i64 0), (S []), (.slice none 0 0)]) rfl rfl rfl (fun _ => by kernel_rfl) (by simp [Value.oneCell']) p20 (by simp) (fun w20 u20 => ?_)
    have e20 : w20.heap[w.heap.size]? = some (.cells #[(.int .i64 1), (S ((atW ws n))), (.int .i64 0), (S []), (.slice none 0 0)] 24 (0, 0)) := u20.here
    have z20 := u20.size
    refine WO_nil ?_
    refine W_ret ?_
    refine body_retpc1 (b := w.heap.size) (c := #[(.int .i64 1), (S ((atW ws n))), (.int .i64 0), (S []), (.slice none 0 0)]) rfl rfl Tryz.underlying24 rfl (fun _ => by kernel_rfl) e20 ?_
    have c2 := c3
    refine ⟨_, _, _, _, [], (n + 1), _, _, [], by rw [readA_name hw]; unfold nameF; rw [if_neg (by simp [n_ok]), if_pos (hsg0 c2)], rfl, RowX.nil, ArgsX.nil, (u20.keep (below_keep bl14 (drew_keep d6 (u5.keep (n4.keep (below_keep bn3 ht2)) (heap_ne (n4.keep (below_keep bn3 ht2)) p5 (by decide))))) (heap_ne (below_keep bl14 (drew_keep d6 (u5.keep (n4.keep (below_keep bn3 ht2)) (heap_ne (n4.keep (below_keep bn3 ht2)) p5 (by decide))))) p20 (by decide))), hr2, (grown_upd (grown_bel (grown_drew (grown_upd (grown_new (grown_bel (World.grownBy.trans (grown_new (grown_refl w _) n1) gt2) bn3) n4) u5 (by first | (left; omega) | (right; rfl))) d6) bl14) u20 (by first | (left; omega) | (right; rfl)))⟩
 ·refine W_skip ?_
  refine W_seq ?_
  refine W_reg ?_
  have hw : atW ws n = [40] := by simpa using c1
  have hlt : n < ws.length := atW_some (by rw [hw]; simp)
  refine WO_pure (v := (.pointer (some ⟨b, 0, none⟩))) rfl rfl ?_
  refine WO_callp rfl (by exact en_29) (ih (n + 1) (by omega) (by omega) b tx2 _ ht2 hr2) (by rintro wp hp; have hU : readA ws n = none ∧ w.grownBy wp (some b) := ⟨by rw [readA_step hw, hp.1, restF_none], World.grownBy.trans (World.grownBy.trans (grown_new (grown_refl w _) n1) gt2) hp.2⟩; exact (show Pan oddCh (fun v w' => OneT ws n b w v w') (fun w' => readA ws n = none ∧ w.grownBy w' (some b)) (.panicked oddCh) wp from Pan.pan hU)) ?_
  rintro _ woa ⟨ka, opa, nma, eva, asa, ma, txa, sva, cssa, hra, rfl, rxa, axa, hta, hRa, goa⟩
  have z_a := goa.size
  have hma := readA_le hra
  have hga := readA_gt hra
  refine WO_bslice (k := 1) (cs := #[(.int .i64 ka), (S nma), (.int .i64 opa), (S eva), sva]) (e := 24) rfl (fun _ => by kernel_rfl) (fun w21 n21 => ?_)
  have e21 : w21.heap[woa.heap.size]? = some (.cells #[(.int .i64 ka), (S nma), (.int .i64 opa), (S eva), sva] 24 (0, 0)) := n21.here
  have z21 := n21.size
  have o21 := n21.owned (base := w.heap.size) (size := 5) (k := 1) (by omega) (by omega) rfl
  refine WO_same (v := (.agg #[(.int .i64 0), (S []), (.int .i64 0), (S []), (.slice (some ⟨woa.heap.size, 0, none⟩) 1 1)])) rfl (by kernel_rfl) ?_
  refine WO_alloc (v := (.agg #[(.int .i64 0), (S []), (.int .i64 0), (S []), (.slice none 0 0)])) rfl (fun _ => by kernel_rfl) (fun w22 n22 => ?_)
  have e22 : w22.heap[w21.heap.size]? = some (.cells #[(.int .i64 0), (S []), (.int .i64 0), (S []), (.slice none 0 0)] 24 (0, 0)) := n22.here
  have z22 := n22.size
  have p23 := e22
  refine WO_storerow (b := w21.heap.size) (o := 0) (c' := #[(.int .i64 0), (S []), (.int .i64 0), (S []), (.slice (some ⟨woa.heap.size, 0, none⟩) 1 1)]) rfl rfl rfl (fun _ => by kernel_rfl) (by simp [Value.oneCell']) p23 (by simp) (fun w23 u23 => ?_)
  have e23 : w23.heap[w21.heap.size]? = some (.cells #[(.int .i64 0), (S []), (.int .i64 0), (S []), (.slice (some ⟨woa.heap.size, 0, none⟩) 1 1)] 24 (0, 0)) := u23.here
  have z23 := u23.size
  refine WO_nil ?_
  refine W_seq ?_
  refine W_reg ?_
  refine WO_pure (v := (.pointer (some ⟨b, 0, none⟩))) rfl rfl ?_
  refine WO_pure (v := (.pointer (some ⟨b, 0, none⟩))) rfl rfl ?_
  refine WO_same (v := (.pointer (some ⟨b, 1, none⟩))) rfl (by kernel_rfl) ?_
  refine WO_load (a := ⟨b, 1, none⟩) (v := (S ((atW ws ma)))) rfl rfl Tryz.underlying9 rfl (cell_of (u23.keep (n22.keep (n21.keep hta)) (heap_ne (n22.keep (n21.keep hta)) p23 (by decide))) rfl) ?_
  refine WO_pure (v := (S ((atW ws ma)))) rfl rfl ?_
  refine WO_nil ?_
  refine W_seq ?_
  refine W_reg ?_
  refine WO_pure (v := (S ((atW ws ma)))) rfl rfl ?_
  refine WO_sneq (l1 := (atW ws ma)) (l2 := []) rfl rfl rfl ?_
  refine WO_callp rfl (by exact en_30) (need_any (!decide ((atW ws ma) = [])) _) (by rintro wp ⟨w_ok, rfl⟩; have hU : readA ws n = none ∧ w.grownBy w23 (some b) := ⟨by rw [readA_step hw, hra, restF_kind (by rw [show atW ws ma = [] by simpa using w_ok]; rfl)], (grown_upd (grown_new (grown_new (World.grownBy.trans (World.grownBy.trans (grown_new (grown_refl w _) n1) gt2) goa) n21) n22) u23 (by first | (left; omega) | (right; rfl)))⟩; exact (show Pan oddCh (fun v w' => OneT ws n b w v w') (fun w' => readA ws n = none ∧ w.grownBy w' (some b)) (.panicked oddCh) w23 from Pan.pan hU)) ?_
  rintro _ _ ⟨w_ok, rfl, rfl⟩
  refine WO_nil ?_
  refine W_seq ?_
  refine W_reg ?_
  refine WO_call rfl (by exact en_34) (words_any _) ?_
  rintro ls24 wl_24 ⟨hl24, bl24⟩
  have zl24 := bl24.size
  refine WO_pure (v := (S ((atW ws ma)))) rfl rfl ?_
  refine WO_call rfl (by exact en_49) (index_any _ _ (atW ws ma) _ hl24 (by decide)) ?_
  rintro _ _ ⟨rfl, rfl⟩
  refine WO_same (v := (.pointer (some ⟨w21.heap.size, 0, none⟩))) rfl (by kernel_rfl) ?_
  have p25 := (below_keep bl24 e23)
  refine WO_store (b := w21.heap.size) (o := 0) (v := (.int .i64 (zIdx wordsL (atW ws ma) 0))) rfl rfl rfl (fun _ => by kernel_rfl) rfl p25 (by simp) (fun w25 u25 => ?_)
  have e25 : w25.heap[w21.heap.size]? = some (.cells #[(.int .i64 (zIdx wordsL (atW ws ma) 0)), (S []), (.int .i64 0), (S []), (.slice (some ⟨woa.heap.size, 0, none⟩) 1 1)] 24 (0, 0)) := u25.here
  have z25 := u25.size
  refine WO_nil ?_
  refine W_seq ?_
  refine W_reg ?_
  refine WO_same (v := (.pointer (some ⟨w21.heap.size, 0, none⟩))) rfl (by kernel_rfl) ?_
  refine WO_load (a := ⟨w21.heap.size, 0, none⟩) (v := (.int .i64 (zIdx wordsL (atW ws ma) 0))) rfl rfl Tryz.underlying3 rfl (cell_of e25 rfl) ?_
  refine WO_pure (v := (.bool (decide (0 < (zIdx wordsL (atW ws ma) 0))))) rfl rfl ?_
  refine WO_callp rfl (by exact en_30) (need_any (decide (0 < (zIdx wordsL (atW ws ma) 0))) _) (by rintro wp ⟨k_ok, rfl⟩; have hU : readA ws n = none ∧ w.grownBy w25 (some b) := ⟨by rw [readA_step hw, hra, restF_kind (Decidable.byContradiction fun h => by simp [(kind_idx (by simpa using w_ok)).1.2 h] at k_ok)], (grown_upd (grown_bel (grown_upd (grown_new (grown_new (World.grownBy.trans (World.grownBy.trans (grown_new (grown_refl w _) n1) gt2) goa) n21) n22) u23 (by first | (left; omega) | (right; rfl))) bl24) u25 (by first | (left; omega) | (right; rfl)))⟩; exact (show Pan oddCh (fun v w' => OneT ws n b w v w') (fun w' => readA ws n = none ∧ w.grownBy w' (some b)) (.panicked oddCh) w25 from Pan.pan hU)) ?_
  rintro _ _ ⟨k_ok, rfl, rfl⟩
  refine WO_nil ?_
  refine W_seq ?_
  refine W_block ?_
  refine W_loop (fun g σ' w' => ∃ (gg nn : Nat) (args : List DepT) (css : List (List Value)) (sv : Value) (tx : List UInt8), σ' 0 = (.pointer (some ⟨b, 0, none⟩)) ∧ σ' 2 = (.pointer (some ⟨w.heap.size, 0, none⟩)) ∧ σ' 6 = (.pointer (some ⟨w21.heap.size, 0, none⟩)) ∧ σ' 7 = (S ((atW ws ma))) ∧ w'.heap[w.heap.size]? = some (.cells #[(.int .i64 0), (S []), (.int .i64 0), (S []), (.slice none 0 0)] 24 (0, 0)) ∧ w'.heap[w21.heap.size]? = some (.cells #[(.int .i64 (zIdx wordsL (atW ws ma) 0)), (S []), (.int .i64 0), (S []), sv] 24 (0, 0)) ∧ w'.heap[b]? = some (.cells #[(S tx), (S ((atW ws nn)))] 56 (0, 0)) ∧ w'.ownsRow w.heap.size 24 5 sv args.length css.flatten ∧ argsF (readA ws) ws (atW ws ma) (ws.length + 1) [(DepT.mk ka nma opa eva asa)] ma = argsF (readA ws) ws (atW ws ma) gg args nn ∧ 0 < gg ∧ ws.length + 1 ≤ gg + nn ∧ nn ≤ ws.length + 2 ∧ 1 ≤ args.length ∧ args.length ≤ nn ∧ ArgsX (fun k => w.heap.size < k ∧ some k ≠ Value.ownBlock sv ∧ k ≠ w21.heap.size) w' args css ∧ some w21.heap.size ≠ Value.ownBlock sv ∧ some w.heap.size ≠ Value.ownBlock sv ∧ Rep ws nn tx ∧ w.grownBy w' (some b) ∧ ma ≤ nn ∧ g = ws.length + 3 - nn) ?_ ?_
  ·refine ⟨_, (ws.length + 1), ma, [(DepT.mk ka nma opa eva asa)], [[.int .i64 ka, S nma, .int .i64 opa, S eva, sva]], (.slice (some ⟨woa.heap.size, 0, none⟩) 1 1), txa, rfl, rfl, rfl, rfl, (u25.keep (below_keep bl24 (u23.keep (n22.keep (n21.keep (grown_keep goa (grown_keep gt2 e1 (by first | assumption | omega | (intro e; have e2 := Option.some.inj e; omega) | (simp; omega))) (by first | assumption | omega | (intro e; have e2 := Option.some.inj e; omega) | (simp; omega))))) (by first | assumption | omega | (simp; omega)))) (by first | assumption | omega | (simp; omega))), e25, (u25.keep (below_keep bl24 (u23.keep (n22.keep (n21.keep hta)) (heap_ne (n22.keep (n21.keep hta)) p23 (by decide)))) (heap_ne (below_keep bl24 (u23.keep (n22.keep (n21.keep hta)) (heap_ne (n22.keep (n21.keep hta)) p23 (by decide)))) p25 (by decide))), (by simpa [List.map_append] using (u25.owns (below_owns bl24 (u23.owns (n22.owns o21) (by first | assumption | (intro e; have e2 : woa.heap.size = _ := Option.some.inj e; omega) | (simp_all; done)))) (by first | assumption | (intro e; have e2 : woa.heap.size = _ := Option.some.inj e; omega) | (simp_all; done)))), ?_, ?_, ?_, ?_, ?_, ?_, ?_, ?_, ?_, ?_, ?_, ?_, rfl⟩
   ·rfl
   ·omega
   ·omega
   ·omega
   ·simp
   ·simp; omega
   ·exact ArgsX.one (DepX.intro (RowX.go rxa (fun b' hb' hp => by change _ ≤ b' at hp; exact ⟨⟨by omega, fun e => by have e2 : b' = woa.heap.size := Option.some.inj e; omega, by omega⟩, ((u25.block b' (by first | assumption | omega | (intro e; have e2 := Option.some.inj e; omega) | (intro e; have := (hbo _ e.symm).2; omega) | (intro e; simp_all; done) | (intro e; simp_all; omega))).trans ((bl24.block b' (by omega)).trans ((u23.block b' (by first | assumption | omega | (intro e; have e2 := Option.some.inj e; omega) | (intro e; have := (hbo _ e.symm).2; omega) | (intro e; simp_all; done) | (intro e; simp_all; omega))).trans ((n22.ext.block b' (by omega)).trans (n21.ext.block b' (by omega))))))⟩) (by omega)) (ArgsX.go (fun b' hb' hp => by change _ ≤ b' at hp; exact ⟨⟨by omega, fun e => by have e2 : b' = woa.heap.size := Option.some.inj e; omega, by omega⟩, ((u25.block b' (by first | assumption | omega | (intro e; have e2 := Option.some.inj e; omega) | (intro e; have := (hbo _ e.symm).2; omega) | (intro e; simp_all; done) | (intro e; simp_all; omega))).trans ((bl24.block b' (by omega)).trans ((u23.block b' (by first | assumption | omega | (intro e; have e2 := Option.some.inj e; omega) | (intro e; have := (hbo _ e.symm).2; omega) | (intro e; simp_all; done) | (intro e; simp_all; omega))).trans ((n22.ext.block b' (by omega)).trans (n21.ext.block b' (by omega))))))⟩) (by omega) _ _ axa))
   ·intro e; have e2 : woa.heap.size = _ := Option.some.inj e.symm; omega
   ·intro e; have e2 : woa.heap.size = _ := Option.some.inj e.symm; omega
   ·exact hRa
   ·exact (grown_upd (grown_bel (grown_upd (grown_new (grown_new (World.grownBy.trans (World.grownBy.trans (grown_new (grown_refl w _) n1) gt2) goa) n21) n22) u23 (by first | (left; omega) | (right; rfl))) bl24) u25 (by first | (left; omega) | (right; rfl)))
   ·omega
  ·rintro g σl1 wl1 ⟨gg, nn, args, css, sv, tx, l1_0, l1_2, l1_6, l1_7, k1_1, k1_2, k1_3, k1_4, f1_1, f1_2, f1_3, f1_4, f1_5, f1_6, f1_7, f1_8, f1_9, f1_10, f1_11, f1_12, rfl⟩
   refine W_anchor (d := 0) l1_0 (W_anchor (d := 2) l1_2 (W_anchor (d := 6) l1_6 (W_anchor (d := 7) l1_7 (?_))))
   have hkw : kindW (atW ws ma) ≠ 0 := (kind_idx (by simpa using w_ok)).1.1 (by simpa using k_ok)
   have hkk : zIdx wordsL (atW ws ma) 0 = kindW (atW ws ma) := (kind_idx (by simpa using w_ok)).2 hkw
   have hbd := heap_lt k1_2
   have hbo := k1_4.lt
   have z_wl1 := f1_11.size
   refine W_seq ?_
   refine W_seq ?_
   refine W_reg ?_
   refine WO_pure (v := (.pointer (some ⟨b, 0, none⟩))) rfl rfl ?_
   refine WO_pure (v := (.pointer (some ⟨b, 0, none⟩))) rfl rfl ?_
   refine WO_same (v := (.pointer (some ⟨b, 1, none⟩))) rfl (by kernel_rfl) ?_
   refine WO_load (a := ⟨b, 1, none⟩) (v := (S ((atW ws nn)))) rfl rfl Tryz.underlying9 rfl (cell_of k1_3 rfl) ?_
   refine WO_pure (v := (S ((atW ws ma)))) rfl rfl ?_
   refine WO_seql (l1 := (atW ws nn)) (l2 := (atW ws ma)) rfl rfl rfl ?_
   refine WO_nil ?_
   refine W_if (p := (atW ws nn) = (atW ws ma)) rfl (fun c4 => ?_) (fun c4 => ?_)
   ·refine W_skip ?_
    refine W_block ?_
    refine W_cut (fun σ' w' => wl1 = w' ∧ σ' 0 = (.pointer (some ⟨b, 0, none⟩)) ∧ σ' 2 = (.pointer (some ⟨w.heap.size, 0, none⟩)) ∧ σ' 6 = (.pointer (some ⟨w21.heap.size, 0, none⟩)) ∧ σ' 7 = (S ((atW ws ma))) ∧ ¬ ((atW ws ma = [105, 102] ∨ atW ws ma = [119, 105, 116, 104, 111, 117, 116]) ∧ 1 < args.length)) ?_ ?_
    ·refine W_reg ?_
     have ckw := c4
     refine WO_same (v := (.pointer (some ⟨w21.heap.size, 4, none⟩))) rfl (by kernel_rfl) ?_
     refine WO_load (a := ⟨w21.heap.size, 4, none⟩) (v := sv) rfl rfl Tryz.underlying22 rfl (cell_of k1_2 rfl) ?_
     refine WO_lenrow (v := sv) (m := args.length) (sz := 5) rfl rfl (RowIs.owned k1_4) Tryz.underlying22 ?_
     refine WO_pure (v := (.bool (decide ((args.length : Int) = 1)))) rfl rfl ?_
     refine WO_pure (v := (.bool (decide ((args.length : Int) = 1)))) rfl rfl ?_
     refine WO_splitp 62 (p := (args.length : Int) = 1) (by exact rfl) (fun c5 => ?_) (fun c5 => ?_)
     ·refine WO_pass rfl ?_
      refine WO_pass rfl ?_
      refine WO_pass rfl ?_
      refine WO_pass rfl ?_
      refine WO_pass rfl ?_
      refine WO_pass rfl ?_
      refine WO_pure (v := (.bool true)) rfl rfl ?_
      refine WO_callp rfl (by exact en_30) (need_any true _) (by rintro wp ⟨a_ok, rfl⟩; have hU : readA ws n = none ∧ w.grownBy wl1 (some b) := ⟨by rw [readA_step hw, hra, restF_bad hkw (by rw [f1_1]; exact argsF_much ckw (by first | (simp at a_ok; done) | (rw [kindW_if, kindW_without]; exact ⟨by first | (exact .inl (by assumption)) | (exact .inr (by simpa using a_ok)) | (simp_all; done), by omega⟩)))], (World.grownBy.trans (grown_refl w _) f1_11)⟩; exact (show Pan oddCh (fun v w' => OneT ws n b w v w') (fun w' => readA ws n = none ∧ w.grownBy w' (some b)) (.panicked oddCh) wl1 from Pan.pan hU)) ?_
      rintro _ _ ⟨a_ok, rfl, rfl⟩
      refine WO_nil ?_
      exact ⟨rfl, rfl, rfl, rfl, rfl, (by first | (simp at a_ok; done) | (rintro ⟨h | h, h2⟩ <;> first | omega | (exact absurd h (by assumption)) | (simp [h] at a_ok; done) | (simp_all; done)))⟩
     ·refine WO_pure (v := (S ((atW ws ma)))) rfl rfl ?_
      refine WO_sneq (l1 := (atW ws ma)) (l2 := [105, 102]) rfl rfl rfl ?_
      refine WO_pure (v := (.bool (!decide ((atW ws ma) = [105, 102])))) rfl rfl ?_
      refine WO_split 65 (b := !decide ((atW ws ma) = [105, 102])) (by exact rfl) (fun c6 => ?_) (fun c6 => ?_)
      ·refine WO_pure (v := (S ((atW ws ma)))) rfl rfl ?_
       refine WO_sneq (l1 := (atW ws ma)) (l2 := [119, 105, 116, 104, 111, 117, 116]) rfl rfl rfl ?_
       refine WO_pure (v := (.bool (!decide ((atW ws ma) = [119, 105, 116, 104, 111, 117, 116])))) rfl rfl ?_
       refine WO_pure (v := (.bool (!decide ((atW ws ma) = [119, 105, 116, 104, 111, 117, 116])))) rfl rfl ?_
       refine WO_callp rfl (by exact en_30) (need_any (!decide ((atW ws ma) = [119, 105, 116, 104, 111, 117, 116])) _) (by rintro wp ⟨a_ok, rfl⟩; have hU : readA ws n = none ∧ w.grownBy wl1 (some b) := ⟨by rw [readA_step hw, hra, restF_bad hkw (by rw [f1_1]; exact argsF_much ckw (by first | (simp at a_ok; done) | (rw [kindW_if, kindW_without]; exact ⟨by first | (exact .inl (by assumption)) | (exact .inr (by simpa using a_ok)) | (simp_all; done), by omega⟩)))], (World.grownBy.trans (grown_refl w _) f1_11)⟩; exact (show Pan oddCh (fun v w' => OneT ws n b w v w') (fun w' => readA ws n = none ∧ w.grownBy w' (some b)) (.panicked oddCh) wl1 from Pan.pan hU)) ?_
       rintro _ _ ⟨a_ok, rfl, rfl⟩
       refine WO_nil ?_
       exact ⟨rfl, rfl, rfl, rfl, rfl, (by first | (simp at a_ok; done) | (rintro ⟨h | h, h2⟩ <;> first | omega | (exact absurd h (by assumption)) | (simp [h] at a_ok; done) | (simp_all; done)))⟩
      ·refine WO_pass rfl ?_
       refine WO_pass rfl ?_
       refine WO_pure (v := (.bool false)) rfl rfl ?_
       refine WO_pure (v := (.bool false)) rfl rfl ?_
       refine WO_callp rfl (by exact en_30) (need_any false _) (by rintro wp ⟨a_ok, rfl⟩; have hU : readA ws n = none ∧ w.grownBy wl1 (some b) := ⟨by rw [readA_step hw, hra, restF_bad hkw (by rw [f1_1]; exact argsF_much ckw (by first | (simp at a_ok; done) | (rw [kindW_if, kindW_without]; exact ⟨by first | (exact .inl (by assumption)) | (exact .inr (by simpa using a_ok)) | (simp_all; done), by omega⟩)))], (World.grownBy.trans (grown_refl w _) f1_11)⟩; exact (show Pan oddCh (fun v w' => OneT ws n b w v w') (fun w' => readA ws n = none ∧ w.grownBy w' (some b)) (.panicked oddCh) wl1 from Pan.pan hU)) ?_
       rintro _ _ ⟨a_ok, rfl, rfl⟩
       refine WO_nil ?_
       exact ⟨rfl, rfl, rfl, rfl, rfl, (by first | (simp at a_ok; done) | (rintro ⟨h | h, h2⟩ <;> first | omega | (exact absurd h (by assumption)) | (simp [h] at a_ok; done) | (simp_all; done)))⟩
    ·rintro σ1 _ ⟨rfl, h1_0, h1_2, h1_6, h1_7, amuch⟩
     refine W_anchor (d := 0) h1_0 (W_anchor (d := 2) h1_2 (W_anchor (d := 6) h1_6 (W_anchor (d := 7) h1_7 (?_))))
     refine W_seq ?_
     refine W_reg ?_
     have ckw := c4
     refine WO_pure (v := (.pointer (some ⟨b, 0, none⟩))) rfl rfl ?_
     refine WO_call rfl (by exact en_28) (nextR_any ws nn b tx _ k1_3 f1_10) ?_
     rintro _ wt26 ⟨tx26, ht26, hr26, gt26⟩
     have z_t26 := gt26.size
     refine WO_nil ?_
     refine W_orderZ (by kernel_rfl) (fun w27 d27 => ?_)
     have z27 := d27.ext.size
     refine WZ_take 0 rfl (by kernel_rfl) (by kernel_rfl) (by kernel_rfl) rfl (v := (.pointer (some ⟨w21.heap.size, 4, none⟩))) (fun _ => by kernel_rfl) ?_
     refine WZ_take 2 rfl (by kernel_rfl) (by kernel_rfl) (by kernel_rfl) rfl (fun _ => pure_run (v := (.pointer (some ⟨b, 0, none⟩))) rfl) ?_
     refine WZ_two 1 3 (by kernel_rfl) rfl rfl ?_ ?_
     ·refine WO_load (a := ⟨w21.heap.size, 4, none⟩) (v := sv) rfl rfl Tryz.underlying22 rfl (cell_of (drew_keep d27 (grown_keep gt26 k1_2 (by first | assumption | omega | (intro e; have e2 := Option.some.inj e; omega) | (simp; omega)))) rfl) ?_
      refine WO_nil (oneZ_normal ?_)
      refine WZ_only 3 (by kernel_rfl) rfl ?_
      refine WO_callp rfl (by exact en_29) (ih (nn + 1) (by omega) (by omega) b tx26 _ (drew_keep d27 ht26) hr26) (by rintro wp hp; have hU : readA ws n = none ∧ w.grownBy wp (some b) := ⟨by rw [readA_step hw, hra, restF_bad hkw (by rw [f1_1]; exact argsF_fail ckw hp.1)], World.grownBy.trans (grown_drew (World.grownBy.trans (World.grownBy.trans (grown_refl w _) f1_11) gt26) d27) hp.2⟩; exact oneZ_panic (fun _ => (show Pan oddCh (fun v w' => OneT ws n b w v w') (fun w' => readA ws n = none ∧ w.grownBy w' (some b)) (.panicked oddCh) wp from Pan.pan hU))) ?_
      rintro _ wox ⟨kx, opx, nmx, evx, asx, mx, txx, svx, cssx, hrx, rfl, rxx, axx, htx, hRx, gox⟩
      have z_x := gox.size
      have hmx := readA_le hrx
      have hgx := readA_gt hrx
      refine WO_nil (oneZ_normal ?_)
      refine WZ_only 4 (by kernel_rfl) rfl ?_
      refine WO_bslice (k := 1) (cs := #[(.int .i64 kx), (S nmx), (.int .i64 opx), (S evx), svx]) (e := 24) rfl (fun _ => by kernel_rfl) (fun w28 n28 => ?_)
      have e28 : w28.heap[wox.heap.size]? = some (.cells #[(.int .i64 kx), (S nmx), (.int .i64 opx), (S evx), svx] 24 (0, 0)) := n28.here
      have z28 := n28.size
      have o28 := n28.owned (base := w.heap.size) (size := 5) (k := 1) (by omega) (by omega) rfl
      refine WO_nil (oneZ_normal ?_)
      refine WZ_only 5 (by kernel_rfl) rfl ?_
      have o29a := (n28.owns (World.ownsRow.kept (drew_owns d27 (World.ownsRow.kept k1_4 gt26 (by first | assumption | (right; intro e; have := (k1_4.lt _ e).1; omega) | simp_all))) gox (by first | assumption | (right; intro e; have := (k1_4.lt _ e).1; omega) | simp_all)))
      refine WO_append1 (v := sv) (sz := 5) (base := w.heap.size) (bytes := 72) rfl rfl rfl Tryz.underlying22 (by kernel_rfl) (by decide) o29a rfl e28 (by intro v hv; simp only [List.mem_cons, List.not_mem_nil, or_false] at hv; rcases hv with hv | hv | hv | hv | hv <;> (rw [hv]; first | rfl | exact oneCell_is (rxx.1.ext n28.ext))) (by omega) (by omega) (by omega) (fun a29 w29 o29 g29 y29 => ?_)
      have z29 := g29.size
      have q29_0 : some w.heap.size ≠ Value.ownBlock a29 := by intro e; rcases y29 with y | y <;> rw [y] at e <;> first | (exact absurd e (by assumption)) | (have e2 : w.heap.size = _ := Option.some.inj e; omega) | (have e2 : _ = w.heap.size := Option.some.inj e; omega)
      have q29_1 : some w21.heap.size ≠ Value.ownBlock a29 := by intro e; rcases y29 with y | y <;> rw [y] at e <;> first | (exact absurd e (by assumption)) | (have e2 : w21.heap.size = _ := Option.some.inj e; omega) | (have e2 : _ = w21.heap.size := Option.some.inj e; omega)
      refine WO_nil (oneZ_normal ?_)
      refine WZ_take 6 rfl (by kernel_rfl) (by kernel_rfl) (by kernel_rfl) rfl (v := (.pointer (some ⟨w21.heap.size, 4, none⟩))) (fun _ => by kernel_rfl) ?_
      refine WZ_only 7 (by kernel_rfl) rfl ?_
      have p30 := (grown_keep g29 (n28.keep (grown_keep gox (drew_keep d27 (grown_keep gt26 k1_2 (by first | assumption | omega | (intro e; have e2 := Option.some.inj e; omega) | (simp; omega)))) (by first | assumption | omega | (intro e; have e2 := Option.some.inj e; omega) | (simp; omega)))) (by first | assumption | omega | (simp; omega)))
      refine WO_store (b := w21.heap.size) (o := 4) (v := a29) rfl rfl rfl (fun _ => by kernel_rfl) (oneC_owned o29) p30 (by simp) (fun w30 u30 => ?_)
      have e30 : w30.heap[w21.heap.size]? = some (.cells #[(.int .i64 (zIdx wordsL (atW ws ma) 0)), (S []), (.int .i64 0), (S []), a29] 24 (0, 0)) := u30.here
      have z30 := u30.size
      refine WO_nil (oneZ_normal ?_)
      refine WZ_done (by kernel_rfl) ?_
      refine ⟨_, ?_, (gg - 1), mx, (args ++ [(DepT.mk kx nmx opx evx asx)]), (css ++ [[.int .i64 kx, S nmx, .int .i64 opx, S evx, svx]]), a29, txx, rfl, rfl, rfl, rfl, (u30.keep (grown_keep g29 (n28.keep (grown_keep gox (drew_keep d27 (grown_keep gt26 k1_1 (by first | assumption | omega | (intro e; have e2 := Option.some.inj e; omega) | (simp; omega)))) (by first | assumption | omega | (intro e; have e2 := Option.some.inj e; omega) | (simp; omega)))) (by first | assumption | omega | (simp; omega))) (by first | assumption | omega | (simp; omega))), e30, (u30.keep (grown_keep g29 (n28.keep htx) (cell_ne_own o29a (n28.keep htx) (by decide))) (heap_ne (grown_keep g29 (n28.keep htx) (cell_ne_own o29a (n28.keep htx) (by decide))) p30 (by decide))), (by simpa [List.map_append] using (u30.owns o29 (by first | assumption | (exact Ne.symm (by assumption)) | (simp_all; done) | (intro e; have := (o29.lt _ e).2; omega)))), ?_, ?_, ?_, ?_, ?_, ?_, ?_, ?_, ?_, ?_, ?_, ?_, rfl⟩
      ·omega
      ·rw [f1_1, argsF_more f1_2 ckw (fun h => amuch ⟨h.1.imp kindW_if.1 kindW_without.1, h.2⟩) hrx]
      ·have := kindW_lt (ws := ws) (n := nn) (by rw [ckw]; exact hkw); omega
      ·omega
      ·omega
      ·rw [List.length_append, List.length_singleton]; omega
      ·rw [List.length_append, List.length_singleton]; omega
      ·exact ArgsX.snoc (DepX.intro (RowX.go rxx (fun b' hb' hp => by change _ ≤ b' at hp; exact ⟨⟨by omega, fun e => by rcases y29 with y | y <;> rw [y] at e <;> first | (exact absurd e (by assumption)) | (have := hbo _ e.symm; omega) | (have e2 : b' = _ := Option.some.inj e; omega), by omega⟩, ((u30.block b' (by first | assumption | omega | (intro e; have e2 := Option.some.inj e; omega) | (intro e; have := (hbo _ e.symm).2; omega) | (intro e; simp_all; done) | (intro e; simp_all; omega))).trans ((g29.block b' (by omega) (by first | assumption | omega | (intro e; have e2 := Option.some.inj e; omega) | (intro e; have := (hbo _ e.symm).2; omega) | (intro e; have := ((o29a).lt _ e.symm).2; omega) | (intro e; simp_all; done) | (intro e; simp_all; omega))).trans (n28.ext.block b' (by omega))))⟩) (by omega)) (ArgsX.go (fun b' hb' hp => by change _ ≤ b' at hp; exact ⟨⟨by omega, fun e => by rcases y29 with y | y <;> rw [y] at e <;> first | (exact absurd e (by assumption)) | (have := hbo _ e.symm; omega) | (have e2 : b' = _ := Option.some.inj e; omega), by omega⟩, ((u30.block b' (by first | assumption | omega | (intro e; have e2 := Option.some.inj e; omega) | (intro e; have := (hbo _ e.symm).2; omega) | (intro e; simp_all; done) | (intro e; simp_all; omega))).trans ((g29.block b' (by omega) (by first | assumption | omega | (intro e; have e2 := Option.some.inj e; omega) | (intro e; have := (hbo _ e.symm).2; omega) | (intro e; have := ((o29a).lt _ e.symm).2; omega) | (intro e; simp_all; done) | (intro e; simp_all; omega))).trans (n28.ext.block b' (by omega))))⟩) (by omega) _ _ axx)) (ArgsX.go (fun b' hb' hp => by obtain ⟨hp1, hp2, hp3⟩ := hp; exact ⟨⟨by omega, fun e => by rcases y29 with y | y <;> rw [y] at e <;> first | (exact absurd e (by assumption)) | (have := hbo _ e.symm; omega) | (have e2 : b' = _ := Option.some.inj e; omega), by omega⟩, ((u30.block b' (by first | assumption | omega | (intro e; have e2 := Option.some.inj e; omega) | (intro e; have := (hbo _ e.symm).2; omega) | (intro e; simp_all; done) | (intro e; simp_all; omega))).trans ((g29.block b' (by omega) (by first | assumption | omega | (intro e; have e2 := Option.some.inj e; omega) | (intro e; have := (hbo _ e.symm).2; omega) | (intro e; have := ((o29a).lt _ e.symm).2; omega) | (intro e; simp_all; done) | (intro e; simp_all; omega))).trans ((n28.ext.block b' (by omega)).trans ((gox.block b' (by omega) (by first | assumption | omega | (intro e; have e2 := Option.some.inj e; omega) | (intro e; have := (hbo _ e.symm).2; omega) | (intro e; simp_all; done) | (intro e; simp_all; omega))).trans ((d27.ext.block b' (by omega)).trans (gt26.block b' (by omega) (by first | assumption | omega | (intro e; have e2 := Option.some.inj e; omega) | (intro e; have := (hbo _ e.symm).2; omega) | (intro e; simp_all; done) | (intro e; simp_all; omega))))))))⟩) (by omega) _ _ f1_7)
      ·assumption
      ·assumption
      ·exact hRx
      ·exact (grown_upd (grown_own (grown_new (World.grownBy.trans (grown_drew (World.grownBy.trans (World.grownBy.trans (grown_refl w _) f1_11) gt26) d27) gox) n28) g29 (own_block_ge o29a)) u30 (by first | (left; omega) | (right; rfl)))
      ·omega
     ·refine WO_callp rfl (by exact en_29) (ih (nn + 1) (by omega) (by omega) b tx26 _ (drew_keep d27 ht26) hr26) (by rintro wp hp; have hU : readA ws n = none ∧ w.grownBy wp (some b) := ⟨by rw [readA_step hw, hra, restF_bad hkw (by rw [f1_1]; exact argsF_fail ckw hp.1)], World.grownBy.trans (grown_drew (World.grownBy.trans (World.grownBy.trans (grown_refl w _) f1_11) gt26) d27) hp.2⟩; exact oneZ_panic (fun _ => (show Pan oddCh (fun v w' => OneT ws n b w v w') (fun w' => readA ws n = none ∧ w.grownBy w' (some b)) (.panicked oddCh) wp from Pan.pan hU))) ?_
      rintro _ wox ⟨kx, opx, nmx, evx, asx, mx, txx, svx, cssx, hrx, rfl, rxx, axx, htx, hRx, gox⟩
      have z_x := gox.size
      have hmx := readA_le hrx
      have hgx := readA_gt hrx
      refine WO_nil (oneZ_normal ?_)
      refine WZ_two 1 4 (by kernel_rfl) rfl rfl ?_ ?_
      ·refine WO_load (a := ⟨w21.heap.size, 4, none⟩) (v := sv) rfl rfl Tryz.underlying22 rfl (cell_of (grown_keep gox (drew_keep d27 (grown_keep gt26 k1_2 (by first | assumption | omega | (intro e; have e2 := Option.some.inj e; omega) | (simp; omega)))) (by first | assumption | omega | (intro e; have e2 := Option.some.inj e; omega) | (simp; omega))) rfl) ?_
       refine WO_nil (oneZ_normal ?_)
       refine WZ_only 4 (by kernel_rfl) rfl ?_
       refine WO_bslice (k := 1) (cs := #[(.int .i64 kx), (S nmx), (.int .i64 opx), (S evx), svx]) (e := 24) rfl (fun _ => by kernel_rfl) (fun w31 n31 => ?_)
       have e31 : w31.heap[wox.heap.size]? = some (.cells #[(.int .i64 kx), (S nmx), (.int .i64 opx), (S evx), svx] 24 (0, 0)) := n31.here
       have z31 := n31.size
       have o31 := n31.owned (base := w.heap.size) (size := 5) (k := 1) (by omega) (by omega) rfl
       refine WO_nil (oneZ_normal ?_)
       refine WZ_only 5 (by kernel_rfl) rfl ?_
       have o32a := (n31.owns (World.ownsRow.kept (drew_owns d27 (World.ownsRow.kept k1_4 gt26 (by first | assumption | (right; intro e; have := (k1_4.lt _ e).1; omega) | simp_all))) gox (by first | assumption | (right; intro e; have := (k1_4.lt _ e).1; omega) | simp_all)))
       refine WO_append1 (v := sv) (sz := 5) (base := w.heap.size) (bytes := 72) rfl rfl rfl Tryz.underlying22 (by kernel_rfl) (by decide) o32a rfl e31 (by intro v hv; simp only [List.mem_cons, List.not_mem_nil, or_false] at hv; rcases hv with hv | hv | hv | hv | hv <;> (rw [hv]; first | rfl | exact oneCell_is (rxx.1.ext n31.ext))) (by omega) (by omega) (by omega) (fun a32 w32 o32 g32 y32 => ?_)
       have z32 := g32.size
       have q32_0 : some w.heap.size ≠ Value.ownBlock a32 := by intro e; rcases y32 with y | y <;> rw [y] at e <;> first | (exact absurd e (by assumption)) | (have e2 : w.heap.size = _ := Option.some.inj e; omega) | (have e2 : _ = w.heap.size := Option.some.inj e; omega)
       have q32_1 : some w21.heap.size ≠ Value.ownBlock a32 := by intro e; rcases y32 with y | y <;> rw [y] at e <;> first | (exact absurd e (by assumption)) | (have e2 : w21.heap.size = _ := Option.some.inj e; omega) | (have e2 : _ = w21.heap.size := Option.some.inj e; omega)
       refine WO_nil (oneZ_normal ?_)
       refine WZ_take 6 rfl (by kernel_rfl) (by kernel_rfl) (by kernel_rfl) rfl (v := (.pointer (some ⟨w21.heap.size, 4, none⟩))) (fun _ => by kernel_rfl) ?_
       refine WZ_only 7 (by kernel_rfl) rfl ?_
       have p33 := (grown_keep g32 (n31.keep (grown_keep gox (drew_keep d27 (grown_keep gt26 k1_2 (by first | assumption | omega | (intro e; have e2 := Option.some.inj e; omega) | (simp; omega)))) (by first | assumption | omega | (intro e; have e2 := Option.some.inj e; omega) | (simp; omega)))) (by first | assumption | omega | (simp; omega)))
       refine WO_store (b := w21.heap.size) (o := 4) (v := a32) rfl rfl rfl (fun _ => by kernel_rfl) (oneC_owned o32) p33 (by simp) (fun w33 u33 => ?_)
       have e33 : w33.heap[w21.heap.size]? = some (.cells #[(.int .i64 (zIdx wordsL (atW ws ma) 0)), (S []), (.int .i64 0), (S []), a32] 24 (0, 0)) := u33.here
       have z33 := u33.size
       refine WO_nil (oneZ_normal ?_)
       refine WZ_done (by kernel_rfl) ?_
       refine ⟨_, ?_, (gg - 1), mx, (args ++ [(DepT.mk kx nmx opx evx asx)]), (css ++ [[.int .i64 kx, S nmx, .int .i64 opx, S evx, svx]]), a32, txx, rfl, rfl, rfl, rfl, (u33.keep (grown_keep g32 (n31.keep (grown_keep gox (drew_keep d27 (grown_keep gt26 k1_1 (by first | assumption | omega | (intro e; have e2 := Option.some.inj e; omega) | (simp; omega)))) (by first | assumption | omega | (intro e; have e2 := Option.some.inj e; omega) | (simp; omega)))) (by first | assumption | omega | (simp; omega))) (by first | assumption | omega | (simp; omega))), e33, (u33.keep (grown_keep g32 (n31.keep htx) (cell_ne_own o32a (n31.keep htx) (by decide))) (heap_ne (grown_keep g32 (n31.keep htx) (cell_ne_own o32a (n31.keep htx) (by decide))) p33 (by decide))), (by simpa [List.map_append] using (u33.owns o32 (by first | assumption | (exact Ne.symm (by assumption)) | (simp_all; done) | (intro e; have := (o32.lt _ e).2; omega)))), ?_, ?_, ?_, ?_, ?_, ?_, ?_, ?_, ?_, ?_, ?_, ?_, rfl⟩
       ·omega
       ·rw [f1_1, argsF_more f1_2 ckw (fun h => amuch ⟨h.1.imp kindW_if.1 kindW_without.1, h.2⟩) hrx]
       ·have := kindW_lt (ws := ws) (n := nn) (by rw [ckw]; exact hkw); omega
       ·omega
       ·omega
       ·rw [List.length_append, List.length_singleton]; omega
       ·rw [List.length_append, List.length_singleton]; omega
       ·exact ArgsX.snoc (DepX.intro (RowX.go rxx (fun b' hb' hp => by change _ ≤ b' at hp; exact ⟨⟨by omega, fun e => by rcases y32 with y | y <;> rw [y] at e <;> first | (exact absurd e (by assumption)) | (have := hbo _ e.symm; omega) | (have e2 : b' = _ := Option.some.inj e; omega), by omega⟩, ((u33.block b' (by first | assumption | omega | (intro e; have e2 := Option.some.inj e; omega) | (intro e; have := (hbo _ e.symm).2; omega) | (intro e; simp_all; done) | (intro e; simp_all; omega))).trans ((g32.block b' (by omega) (by first | assumption | omega | (intro e; have e2 := Option.some.inj e; omega) | (intro e; have := (hbo _ e.symm).2; omega) | (intro e; have := ((o32a).lt _ e.symm).2; omega) | (intro e; simp_all; done) | (intro e; simp_all; omega))).trans (n31.ext.block b' (by omega))))⟩) (by omega)) (ArgsX.go (fun b' hb' hp => by change _ ≤ b' at hp; exact ⟨⟨by omega, fun e => by rcases y32 with y | y <;> rw [y] at e <;> first | (exact absurd e (by assumption)) | (have := hbo _ e.symm; omega) | (have e2 : b' = _ := Option.some.inj e; omega), by omega⟩, ((u33.block b' (by first | assumption | omega | (intro e; have e2 := Option.some.inj e; omega) | (intro e; have := (hbo _ e.symm).2; omega) | (intro e; simp_all; done) | (intro e; simp_all; omega))).trans ((g32.block b' (by omega) (by first | assumption | omega | (intro e; have e2 := Option.some.inj e; omega) | (intro e; have := (hbo _ e.symm).2; omega) | (intro e; have := ((o32a).lt _ e.symm).2; omega) | (intro e; simp_all; done) | (intro e; simp_all; omega))).trans (n31.ext.block b' (by omega))))⟩) (by omega) _ _ axx)) (ArgsX.go (fun b' hb' hp => by obtain ⟨hp1, hp2, hp3⟩ := hp; exact ⟨⟨by omega, fun e => by rcases y32 with y | y <;> rw [y] at e <;> first | (exact absurd e (by assumption)) | (have := hbo _ e.symm; omega) | (have e2 : b' = _ := Option.some.inj e; omega), by omega⟩, ((u33.block b' (by first | assumption | omega | (intro e; have e2 := Option.some.inj e; omega) | (intro e; have := (hbo _ e.symm).2; omega) | (intro e; simp_all; done) | (intro e; simp_all; omega))).trans ((g32.block b' (by omega) (by first | assumption | omega | (intro e; have e2 := Option.some.inj e; omega) | (intro e; have := (hbo _ e.symm).2; omega) | (intro e; have := ((o32a).lt _ e.symm).2; omega) | (intro e; simp_all; done) | (intro e; simp_all; omega))).trans ((n31.ext.block b' (by omega)).trans ((gox.block b' (by omega) (by first | assumption | omega | (intro e; have e2 := Option.some.inj e; omega) | (intro e; have := (hbo _ e.symm).2; omega) | (intro e; simp_all; done) | (intro e; simp_all; omega))).trans ((d27.ext.block b' (by omega)).trans (gt26.block b' (by omega) (by first | assumption | omega | (intro e; have e2 := Option.some.inj e; omega) | (intro e; have := (hbo _ e.symm).2; omega) | (intro e; simp_all; done) | (intro e; simp_all; omega))))))))⟩) (by omega) _ _ f1_7)
       ·assumption
       ·assumption
       ·exact hRx
       ·exact (grown_upd (grown_own (grown_new (World.grownBy.trans (grown_drew (World.grownBy.trans (World.grownBy.trans (grown_refl w _) f1_11) gt26) d27) gox) n31) g32 (own_block_ge o32a)) u33 (by first | (left; omega) | (right; rfl)))
       ·omega
      ·refine WO_bslice (k := 1) (cs := #[(.int .i64 kx), (S nmx), (.int .i64 opx), (S evx), svx]) (e := 24) rfl (fun _ => by kernel_rfl) (fun w34 n34 => ?_)
       have e34 : w34.heap[wox.heap.size]? = some (.cells #[(.int .i64 kx), (S nmx), (.int .i64 opx), (S evx), svx] 24 (0, 0)) := n34.here
       have z34 := n34.size
       have o34 := n34.owned (base := w.heap.size) (size := 5) (k := 1) (by omega) (by omega) rfl
       refine WO_nil (oneZ_normal ?_)
       refine WZ_only 1 (by kernel_rfl) rfl ?_
       refine WO_load (a := ⟨w21.heap.size, 4, none⟩) (v := sv) rfl rfl Tryz.underlying22 rfl (cell_of (n34.keep (grown_keep gox (drew_keep d27 (grown_keep gt26 k1_2 (by first | assumption | omega | (intro e; have e2 := Option.some.inj e; omega) | (simp; omega)))) (by first | assumption | omega | (intro e; have e2 := Option.some.inj e; omega) | (simp; omega)))) rfl) ?_
       refine WO_nil (oneZ_normal ?_)
       refine WZ_only 5 (by kernel_rfl) rfl ?_
       have o35a := (n34.owns (World.ownsRow.kept (drew_owns d27 (World.ownsRow.kept k1_4 gt26 (by first | assumption | (right; intro e; have := (k1_4.lt _ e).1; omega) | simp_all))) gox (by first | assumption | (right; intro e; have := (k1_4.lt _ e).1; omega) | simp_all)))
       refine WO_append1 (v := sv) (sz := 5) (base := w.heap.size) (bytes := 72) rfl rfl rfl Tryz.underlying22 (by kernel_rfl) (by decide) o35a rfl e34 (by intro v hv; simp only [List.mem_cons, List.not_mem_nil, or_false] at hv; rcases hv with hv | hv | hv | hv | hv <;> (rw [hv]; first | rfl | exact oneCell_is (rxx.1.ext n34.ext))) (by omega) (by omega) (by omega) (fun a35 w35 o35 g35 y35 => ?_)
       have z35 := g35.size
       have q35_0 : some w.heap.size ≠ Value.ownBlock a35 := by intro e; rcases y35 with y | y <;> rw [y] at e <;> first | (exact absurd e (by assumption)) | (have e2 : w.heap.size = _ := Option.some.inj e; omega) | (have e2 : _ = w.heap.size := Option.some.inj e; omega)
       have q35_1 : some w21.heap.size ≠ Value.ownBlock a35 := by intro e; rcases y35 with y | y <;> rw [y] at e <;> first | (exact absurd e (by assumption)) | (have e2 : w21.heap.size = _ := Option.some.inj e; omega) | (have e2 : _ = w21.heap.size := Option.some.inj e; omega)
       refine WO_nil (oneZ_normal ?_)
       refine WZ_take 6 rfl (by kernel_rfl) (by kernel_rfl) (by kernel_rfl) rfl (v := (.pointer (some ⟨w21.heap.size, 4, none⟩))) (fun _ => by kernel_rfl) ?_
       refine WZ_only 7 (by kernel_rfl) rfl ?_
       have p36 := (grown_keep g35 (n34.keep (grown_keep gox (drew_keep d27 (grown_keep gt26 k1_2 (by first | assumption | omega | (intro e; have e2 := Option.some.inj e; omega) | (simp; omega)))) (by first | assumption | omega | (intro e; have e2 := Option.some.inj e; omega) | (simp; omega)))) (by first | assumption | omega | (simp; omega)))
       refine WO_store (b := w21.heap.size) (o := 4) (v := a35) rfl rfl rfl (fun _ => by kernel_rfl) (oneC_owned o35) p36 (by simp) (fun w36 u36 => ?_)
       have e36 : w36.heap[w21.heap.size]? = some (.cells #[(.int .i64 (zIdx wordsL (atW ws ma) 0)), (S []), (.int .i64 0), (S []), a35] 24 (0, 0)) := u36.here
       have z36 := u36.size
       refine WO_nil (oneZ_normal ?_)
       refine WZ_done (by kernel_rfl) ?_
       refine ⟨_, ?_, (gg - 1), mx, (args ++ [(DepT.mk kx nmx opx evx asx)]), (css ++ [[.int .i64 kx, S nmx, .int .i64 opx, S evx, svx]]), a35, txx, rfl, rfl, rfl, rfl, (u36.keep (grown_keep g35 (n34.keep (grown_keep gox (drew_keep d27 (grown_keep gt26 k1_1 (by first | assumption | omega | (intro e; have e2 := Option.some.inj e; omega) | (simp; omega)))) (by first | assumption | omega | (intro e; have e2 := Option.some.inj e; omega) | (simp; omega)))) (by first | assumption | omega | (simp; omega))) (by first | assumption | omega | (simp; omega))), e36, (u36.keep (grown_keep g35 (n34.keep htx) (cell_ne_own o35a (n34.keep htx) (by decide))) (heap_ne (grown_keep g35 (n34.keep htx) (cell_ne_own o35a (n34.keep htx) (by decide))) p36 (by decide))), (by simpa [List.map_append] using (u36.owns o35 (by first | assumption | (exact Ne.symm (by assumption)) | (simp_all; done) | (intro e; have := (o35.lt _ e).2; omega)))), ?_, ?_, ?_, ?_, ?_, ?_, ?_, ?_, ?_, ?_, ?_, ?_, rfl⟩
       ·omega
       ·rw [f1_1, argsF_more f1_2 ckw (fun h => amuch ⟨h.1.imp kindW_if.1 kindW_without.1, h.2⟩) hrx]
       ·have := kindW_lt (ws := ws) (n := nn) (by rw [ckw]; exact hkw); omega
       ·omega
       ·omega
       ·rw [List.length_append, List.length_singleton]; omega
       ·rw [List.length_append, List.length_singleton]; omega
       ·exact ArgsX.snoc (DepX.intro (RowX.go rxx (fun b' hb' hp => by change _ ≤ b' at hp; exact ⟨⟨by omega, fun e => by rcases y35 with y | y <;> rw [y] at e <;> first | (exact absurd e (by assumption)) | (have := hbo _ e.symm; omega) | (have e2 : b' = _ := Option.some.inj e; omega), by omega⟩, ((u36.block b' (by first | assumption | omega | (intro e; have e2 := Option.some.inj e; omega) | (intro e; have := (hbo _ e.symm).2; omega) | (intro e; simp_all; done) | (intro e; simp_all; omega))).trans ((g35.block b' (by omega) (by first | assumption | omega | (intro e; have e2 := Option.some.inj e; omega) | (intro e; have := (hbo _ e.symm).2; omega) | (intro e; have := ((o35a).lt _ e.symm).2; omega) | (intro e; simp_all; done) | (intro e; simp_all; omega))).trans (n34.ext.block b' (by omega))))⟩) (by omega)) (ArgsX.go (fun b' hb' hp => by change _ ≤ b' at hp; exact ⟨⟨by omega, fun e => by rcases y35 with y | y <;> rw [y] at e <;> first | (exact absurd e (by assumption)) | (have := hbo _ e.symm; omega) | (have e2 : b' = _ := Option.some.inj e; omega), by omega⟩, ((u36.block b' (by first | assumption | omega | (intro e; have e2 := Option.some.inj e; omega) | (intro e; have := (hbo _ e.symm).2; omega) | (intro e; simp_all; done) | (intro e; simp_all; omega))).trans ((g35.block b' (by omega) (by first | assumption | omega | (intro e; have e2 := Option.some.inj e; omega) | (intro e; have := (hbo _ e.symm).2; omega) | (intro e; have := ((o35a).lt _ e.symm).2; omega) | (intro e; simp_all; done) | (intro e; simp_all; omega))).trans (n34.ext.block b' (by omega))))⟩) (by omega) _ _ axx)) (ArgsX.go (fun b' hb' hp => by obtain ⟨hp1, hp2, hp3⟩ := hp; exact ⟨⟨by omega, fun e => by rcases y35 with y | y <;> rw [y] at e <;> first | (exact absurd e (by assumption)) | (have := hbo _ e.symm; omega) | (have e2 : b' = _ := Option.some.inj e; omega), by omega⟩, ((u36.block b' (by first | assumption | omega | (intro e; have e2 := Option.some.inj e; omega) | (intro e; have := (hbo _ e.symm).2; omega) | (intro e; simp_all; done) | (intro e; simp_all; omega))).trans ((g35.block b' (by omega) (by first | assumption | omega | (intro e; have e2 := Option.some.inj e; omega) | (intro e; have := (hbo _ e.symm).2; omega) | (intro e; have := ((o35a).lt _ e.symm).2; omega) | (intro e; simp_all; done) | (intro e; simp_all; omega))).trans ((n34.ext.block b' (by omega)).trans ((gox.block b' (by omega) (by first | assumption | omega | (intro e; have e2 := Option.some.inj e; omega) | (intro e; have := (hbo _ e.symm).2; omega) | (intro e; simp_all; done) | (intro e; simp_all; omega))).trans ((d27.ext.block b' (by omega)).trans (gt26.block b' (by omega) (by first | assumption | omega | (intro e; have e2 := Option.some.inj e; omega) | (intro e; have := (hbo _ e.symm).2; omega) | (intro e; simp_all; done) | (intro e; simp_all; omega))))))))⟩) (by omega) _ _ f1_7)
       ·assumption
       ·assumption
       ·exact hRx
       ·exact (grown_upd (grown_own (grown_new (World.grownBy.trans (grown_drew (World.grownBy.trans (World.grownBy.trans (grown_refl w _) f1_11) gt26) d27) gox) n34) g35 (own_block_ge o35a)) u36 (by first | (left; omega) | (right; rfl)))
       ·omega
   ·refine W_exit ?_
    refine W_seq ?_
    refine W_cut (fun σ' w' => wl1 = w' ∧ σ' 0 = (.pointer (some ⟨b, 0, none⟩)) ∧ σ' 2 = (.pointer (some ⟨w.heap.size, 0, none⟩)) ∧ σ' 6 = (.pointer (some ⟨w21.heap.size, 0, none⟩)) ∧ σ' 88 = (.bool (decide (atW ws ma = [105, 102] ∧ atW ws nn = [101, 108, 115, 101])))) ?_ ?_
    ·refine W_reg ?_
     refine WO_pure (v := (S ((atW ws ma)))) rfl rfl ?_
     refine WO_seql (l1 := (atW ws ma)) (l2 := [105, 102]) rfl rfl rfl ?_
     refine WO_pure (v := (.bool (decide ((atW ws ma) = [105, 102])))) rfl rfl ?_
     refine WO_splitp 82 (p := (atW ws ma) = [105, 102]) (by exact rfl) (fun c7 => ?_) (fun c7 => ?_)
     ·refine WO_pure (v := (.pointer (some ⟨b, 0, none⟩))) rfl rfl ?_
      refine WO_pure (v := (.pointer (some ⟨b, 0, none⟩))) rfl rfl ?_
      refine WO_same (v := (.pointer (some ⟨b, 1, none⟩))) rfl (by kernel_rfl) ?_
      refine WO_load (a := ⟨b, 1, none⟩) (v := (S ((atW ws nn)))) rfl rfl Tryz.underlying9 rfl (cell_of k1_3 rfl) ?_
      refine WO_seql (l1 := (atW ws nn)) (l2 := [101, 108, 115, 101]) rfl rfl rfl ?_
      refine WO_pure (v := (.bool (decide ((atW ws nn) = [101, 108, 115, 101])))) rfl rfl ?_
      refine WO_nil ?_
      exact ⟨rfl, rfl, rfl, rfl, (by show ((.bool (decide ((atW ws nn) = [101, 108, 115, 101]))) : Value) = (.bool (decide (atW ws ma = [105, 102] ∧ atW ws nn = [101, 108, 115, 101]))); show Value.bool _ = Value.bool _; rw [Value.bool.injEq, Bool.eq_iff_iff]; first | (simp [c7]; done) | (simp [c7]; omega) | (simp_all []; done) | (simp_all []; omega) | (simp only [Bool.or_eq_true, Bool.and_eq_true, Bool.not_eq_true', decide_eq_true_eq, decide_eq_false_iff_not]; grind))⟩
     ·refine WO_pass rfl ?_
      refine WO_pass rfl ?_
      refine WO_pass rfl ?_
      refine WO_pass rfl ?_
      refine WO_pass rfl ?_
      refine WO_pure (v := (.bool false)) rfl rfl ?_
      refine WO_nil ?_
      exact ⟨rfl, rfl, rfl, rfl, (by show ((.bool false) : Value) = (.bool (decide (atW ws ma = [105, 102] ∧ atW ws nn = [101, 108, 115, 101]))); show Value.bool _ = Value.bool _; rw [Value.bool.injEq, Bool.eq_iff_iff]; first | (simp [c7]; done) | (simp [c7]; omega) | (simp_all []; done) | (simp_all []; omega) | (simp only [Bool.or_eq_true, Bool.and_eq_true, Bool.not_eq_true', decide_eq_true_eq, decide_eq_false_iff_not]; grind))⟩
    ·rintro σ2 _ ⟨rfl, h2_0, h2_2, h2_6, h2_88⟩
     refine W_anchor (d := 0) h2_0 (W_anchor (d := 2) h2_2 (W_anchor (d := 6) h2_6 (W_anchor (d := 88) h2_88 (?_))))
     refine W_if (p := atW ws ma = [105, 102] ∧ atW ws nn = [101, 108, 115, 101]) rfl (fun c8 => ?_) (fun c8 => ?_)
     ·refine W_seq ?_
      refine W_reg ?_
      have ckw := c4
      have celse := c8
      refine WO_pure (v := (.pointer (some ⟨b, 0, none⟩))) rfl rfl ?_
      refine WO_call rfl (by exact en_28) (nextR_any ws nn b tx _ k1_3 f1_10) ?_
      rintro _ wt37 ⟨tx37, ht37, hr37, gt37⟩
      have z_t37 := gt37.size
      refine WO_nil ?_
      refine W_orderZ (by kernel_rfl) (fun w38 d38 => ?_)
      have z38 := d38.ext.size
      refine WZ_take 0 rfl (by kernel_rfl) (by kernel_rfl) (by kernel_rfl) rfl (v := (.pointer (some ⟨w21.heap.size, 4, none⟩))) (fun _ => by kernel_rfl) ?_
      refine WZ_take 2 rfl (by kernel_rfl) (by kernel_rfl) (by kernel_rfl) rfl (fun _ => pure_run (v := (.pointer (some ⟨b, 0, none⟩))) rfl) ?_
      refine WZ_two 1 3 (by kernel_rfl) rfl rfl ?_ ?_
      ·refine WO_load (a := ⟨w21.heap.size, 4, none⟩) (v := sv) rfl rfl Tryz.underlying22 rfl (cell_of (drew_keep d38 (grown_keep gt37 k1_2 (by first | assumption | omega | (intro e; have e2 := Option.some.inj e; omega) | (simp; omega)))) rfl) ?_
       refine WO_nil (oneZ_normal ?_)
       refine WZ_only 3 (by kernel_rfl) rfl ?_
       refine WO_callp rfl (by exact en_29) (ih (nn + 1) (by omega) (by omega) b tx37 _ (drew_keep d38 ht37) hr37) (by rintro wp hp; have hU : readA ws n = none ∧ w.grownBy wp (some b) := ⟨by rw [readA_step hw, hra, restF_end hkw (by rw [f1_1]; exact argsF_stop f1_2 ckw), elseF_fail ⟨kindW_if.2 celse.1, celse.2⟩ hp.1, endF_none], World.grownBy.trans (grown_drew (World.grownBy.trans (World.grownBy.trans (grown_refl w _) f1_11) gt37) d38) hp.2⟩; exact oneZ_panic (fun _ => (show Pan oddCh (fun v w' => OneT ws n b w v w') (fun w' => readA ws n = none ∧ w.grownBy w' (some b)) (.panicked oddCh) wp from Pan.pan hU))) ?_
       rintro _ woy ⟨ky, opy, nmy, evy, asy, my, txy, svy, cssy, hry, rfl, rxy, axy, hty, hRy, goy⟩
       have z_y := goy.size
       have hmy := readA_le hry
       have hgy := readA_gt hry
       refine WO_nil (oneZ_normal ?_)
       refine WZ_only 4 (by kernel_rfl) rfl ?_
       refine WO_bslice (k := 1) (cs := #[(.int .i64 ky), (S nmy), (.int .i64 opy), (S evy), svy]) (e := 24) rfl (fun _ => by kernel_rfl) (fun w39 n39 => ?_)
       have e39 : w39.heap[woy.heap.size]? = some (.cells #[(.int .i64 ky), (S nmy), (.int .i64 opy), (S evy), svy] 24 (0, 0)) := n39.here
       have z39 := n39.size
       have o39 := n39.owned (base := w.heap.size) (size := 5) (k := 1) (by omega) (by omega) rfl
       refine WO_nil (oneZ_normal ?_)
       refine WZ_only 5 (by kernel_rfl) rfl ?_
       have o40a := (n39.owns (World.ownsRow.kept (drew_owns d38 (World.ownsRow.kept k1_4 gt37 (by first | assumption | (right; intro e; have := (k1_4.lt _ e).1; omega) | simp_all))) goy (by first | assumption | (right; intro e; have := (k1_4.lt _ e).1; omega) | simp_all)))
       refine WO_append1 (v := sv) (sz := 5) (base := w.heap.size) (bytes := 72) rfl rfl rfl Tryz.underlying22 (by kernel_rfl) (by decide) o40a rfl e39 (by intro v hv; simp only [List.mem_cons, List.not_mem_nil, or_false] at hv; rcases hv with hv | hv | hv | hv | hv <;> (rw [hv]; first | rfl | exact oneCell_is (rxy.1.ext n39.ext))) (by omega) (by omega) (by omega) (fun a40 w40 o40 g40 y40 => ?_)
       have z40 := g40.size
       have q40_0 : some w.heap.size ≠ Value.ownBlock a40 := by intro e; rcases y40 with y | y <;> rw [y] at e <;> first | (exact absurd e (by assumption)) | (have e2 : w.heap.size = _ := Option.some.inj e; omega) | (have e2 : _ = w.heap.size := Option.some.inj e; omega)
       have q40_1 : some w21.heap.size ≠ Value.ownBlock a40 := by intro e; rcases y40 with y | y <;> rw [y] at e <;> first | (exact absurd e (by assumption)) | (have e2 : w21.heap.size = _ := Option.some.inj e; omega) | (have e2 : _ = w21.heap.size := Option.some.inj e; omega)
       refine WO_nil (oneZ_normal ?_)
       refine WZ_take 6 rfl (by kernel_rfl) (by kernel_rfl) (by kernel_rfl) rfl (v := (.pointer (some ⟨w21.heap.size, 4, none⟩))) (fun _ => by kernel_rfl) ?_
       refine WZ_only 7 (by kernel_rfl) rfl ?_
       have p41 := (grown_keep g40 (n39.keep (grown_keep goy (drew_keep d38 (grown_keep gt37 k1_2 (by first | assumption | omega | (intro e; have e2 := Option.some.inj e; omega) | (simp; omega)))) (by first | assumption | omega | (intro e; have e2 := Option.some.inj e; omega) | (simp; omega)))) (by first | assumption | omega | (simp; omega)))
       refine WO_store (b := w21.heap.size) (o := 4) (v := a40) rfl rfl rfl (fun _ => by kernel_rfl) (oneC_owned o40) p41 (by simp) (fun w41 u41 => ?_)
       have e41 : w41.heap[w21.heap.size]? = some (.cells #[(.int .i64 (zIdx wordsL (atW ws ma) 0)), (S []), (.int .i64 0), (S []), a40] 24 (0, 0)) := u41.here
       have z41 := u41.size
       refine WO_nil (oneZ_normal ?_)
       refine WZ_done (by kernel_rfl) ?_
       refine W_seq ?_
       refine W_reg ?_
       refine WO_pure (v := (.pointer (some ⟨b, 0, none⟩))) rfl rfl ?_
       refine WO_call rfl (by exact en_48) (takeR_any ws my b txy _ (u41.keep (grown_keep g40 (n39.keep hty) (cell_ne_own o40a (n39.keep hty) (by decide))) (heap_ne (grown_keep g40 (n39.keep hty) (cell_ne_own o40a (n39.keep hty) (by decide))) p41 (by decide))) hRy) ?_
       rintro _ wt42 ⟨rfl, tx42, ht42, hr42, gt42⟩
       have z_t42 := gt42.size
       refine WO_seql (l1 := (atW ws my)) (l2 := [41]) rfl rfl rfl ?_
       refine WO_callp rfl (by exact en_30) (need_any (decide ((atW ws my) = [41])) _) (by rintro wp ⟨e_ok, rfl⟩; have hU : readA ws n = none ∧ w.grownBy wt42 (some b) := ⟨by rw [readA_step hw, hra, restF_end hkw (by rw [f1_1]; exact argsF_stop f1_2 ckw), elseF_more ⟨kindW_if.2 celse.1, celse.2⟩ hry, endF_no (by simpa using e_ok)], (World.grownBy.trans (grown_upd (grown_own (grown_new (World.grownBy.trans (grown_drew (World.grownBy.trans (World.grownBy.trans (grown_refl w _) f1_11) gt37) d38) goy) n39) g40 (own_block_ge o40a)) u41 (by first | (left; omega) | (right; rfl))) gt42)⟩; exact (show Pan oddCh (fun v w' => OneT ws n b w v w') (fun w' => readA ws n = none ∧ w.grownBy w' (some b)) (.panicked oddCh) wt42 from Pan.pan hU)) ?_
       rintro _ _ ⟨e_ok, rfl, rfl⟩
       refine WO_nil ?_
       refine W_seq ?_
       refine W_reg ?_
       refine WO_loadrow (b := w21.heap.size) (o := 0) (m := 5) (c := #[(.int .i64 (zIdx wordsL (atW ws ma) 0)), (S []), (.int .i64 0), (S []), a40]) rfl rfl Tryz.underlying24 rfl (fun _ => by kernel_rfl) (grown_keep gt42 e41 (by first | assumption | omega | (intro e; have e2 := Option.some.inj e; omega) | (simp; omega))) (by simp) ?_
       refine WO_eq 102 (v' := (.agg #[(.int .i64 (zIdx wordsL (atW ws ma) 0)), (S []), (.int .i64 0), (S []), a40])) rfl rfl ?_
       have p43 := (grown_keep gt42 (u41.keep (grown_keep g40 (n39.keep (grown_keep goy (drew_keep d38 (grown_keep gt37 k1_1 (by first | assumption | omega | (intro e; have e2 := Option.some.inj e; omega) | (simp; omega)))) (by first | assumption | omega | (intro e; have e2 := Option.some.inj e; omega) | (simp; omega)))) (by first | assumption | omega | (simp; omega))) (by first | assumption | omega | (simp; omega))) (by first | assumption | omega | (intro e; have e2 := Option.some.inj e; omega) | (simp; omega)))
       refine WO_storerow (b := w.heap.size) (o := 0) (c' := #[(.int .i64 (zIdx wordsL (atW ws ma) 0)), (S []), (.int .i64 0), (S []), a40]) rfl rfl rfl (fun _ => by kernel_rfl) (by rw [Array.all_eq_true_iff_forall_mem]; intro v hv; simp only [List.mem_toArray, List.mem_cons, List.not_mem_nil, or_false] at hv; rcases hv with hv | hv | hv | hv | hv <;> (rw [hv]; first | rfl | exact oneCell_owned (World.ownsRow.kept (u41.owns o40 (by first | assumption | (exact Ne.symm (by assumption)) | (simp_all; done) | (intro e; have := (o40.lt _ e).2; omega))) gt42 (by first | assumption | (right; intro e; have := (o40.lt _ e).1; omega) | simp_all)))) p43 (by simp) (fun w43 u43 => ?_)
       have e43 : w43.heap[w.heap.size]? = some (.cells #[(.int .i64 (zIdx wordsL (atW ws ma) 0)), (S []), (.int .i64 0), (S []), a40] 24 (0, 0)) := u43.here
       have z43 := u43.size
       refine WO_nil ?_
       refine W_ret ?_
       refine body_retpc1 (b := w.heap.size) (c := #[(.int .i64 (zIdx wordsL (atW ws ma) 0)), (S []), (.int .i64 0), (S []), a40]) rfl rfl Tryz.underlying24 rfl (fun _ => by kernel_rfl) e43 ?_
       have ha : argsF (readA ws) ws (atW ws ma) (ws.length + 1) [(DepT.mk ka nma opa eva asa)] ma = some (args, nn) := by rw [f1_1]; exact argsF_stop f1_2 ckw
       refine ⟨_, _, _, _, (args ++ [(DepT.mk ky nmy opy evy asy)]), (my + 1), _, _, (css ++ [[.int .i64 ky, S nmy, .int .i64 opy, S evy, svy]]), by rw [readA_step hw, hra, restF_end hkw ha, elseF_more ⟨kindW_if.2 celse.1, celse.2⟩ hry, endF_yes (by simpa using e_ok), ← hkk], rfl, RowX.owned (xs := (css ++ [[.int .i64 ky, S nmy, .int .i64 opy, S evy, svy]]).flatten) (by simpa using (u43.owns (World.ownsRow.kept (u41.owns o40 (by first | assumption | (exact Ne.symm (by assumption)) | (simp_all; done) | (intro e; have := (o40.lt _ e).2; omega))) gt42 (by first | assumption | (right; intro e; have := (o40.lt _ e).1; omega) | simp_all)) (by first | assumption | (exact Ne.symm (by assumption)) | (simp_all; done) | (intro e; have := (o40.lt _ e).2; omega)))) (fun k _ h => h), ArgsX.snoc (DepX.intro (RowX.go rxy (fun b' hb' hp => by change _ ≤ b' at hp; exact ⟨by omega, ((u43.block b' (by first | assumption | omega | (intro e; have e2 := Option.some.inj e; omega) | (intro e; have := (hbo _ e.symm).2; omega) | (intro e; simp_all; done) | (intro e; simp_all; omega))).trans ((gt42.block b' (by omega) (by first | assumption | omega | (intro e; have e2 := Option.some.inj e; omega) | (intro e; have := (hbo _ e.symm).2; omega) | (intro e; simp_all; done) | (intro e; simp_all; omega))).trans ((u41.block b' (by first | assumption | omega | (intro e; have e2 := Option.some.inj e; omega) | (intro e; have := (hbo _ e.symm).2; omega) | (intro e; simp_all; done) | (intro e; simp_all; omega))).trans ((g40.block b' (by omega) (by first | assumption | omega | (intro e; have e2 := Option.some.inj e; omega) | (intro e; have := (hbo _ e.symm).2; omega) | (intro e; have := ((o40a).lt _ e.symm).2; omega) | (intro e; simp_all; done) | (intro e; simp_all; omega))).trans (n39.ext.block b' (by omega))))))⟩) (by omega)) (ArgsX.go (fun b' hb' hp => by change _ ≤ b' at hp; exact ⟨by omega, ((u43.block b' (by first | assumption | omega | (intro e; have e2 := Option.some.inj e; omega) | (intro e; have := (hbo _ e.symm).2; omega) | (intro e; simp_all; done) | (intro e; simp_all; omega))).trans ((gt42.block b' (by omega) (by first | assumption | omega | (intro e; have e2 := Option.some.inj e; omega) | (intro e; have := (hbo _ e.symm).2; omega) | (intro e; simp_all; done) | (intro e; simp_all; omega))).trans ((u41.block b' (by first | assumption | omega | (intro e; have e2 := Option.some.inj e; omega) | (intro e; have := (hbo _ e.symm).2; omega) | (intro e; simp_all; done) | (intro e; simp_all; omega))).trans ((g40.block b' (by omega) (by first | assumption | omega | (intro e; have e2 := Option.some.inj e; omega) | (intro e; have := (hbo _ e.symm).2; omega) | (intro e; have := ((o40a).lt _ e.symm).2; omega) | (intro e; simp_all; done) | (intro e; simp_all; omega))).trans (n39.ext.block b' (by omega))))))⟩) (by omega) _ _ axy)) (ArgsX.go (fun b' hb' hp => by obtain ⟨hp1, hp2, hp3⟩ := hp; exact ⟨by omega, ((u43.block b' (by first | assumption | omega | (intro e; have e2 := Option.some.inj e; omega) | (intro e; have := (hbo _ e.symm).2; omega) | (intro e; simp_all; done) | (intro e; simp_all; omega))).trans ((gt42.block b' (by omega) (by first | assumption | omega | (intro e; have e2 := Option.some.inj e; omega) | (intro e; have := (hbo _ e.symm).2; omega) | (intro e; simp_all; done) | (intro e; simp_all; omega))).trans ((u41.block b' (by first | assumption | omega | (intro e; have e2 := Option.some.inj e; omega) | (intro e; have := (hbo _ e.symm).2; omega) | (intro e; simp_all; done) | (intro e; simp_all; omega))).trans ((g40.block b' (by omega) (by first | assumption | omega | (intro e; have e2 := Option.some.inj e; omega) | (intro e; have := (hbo _ e.symm).2; omega) | (intro e; have := ((o40a).lt _ e.symm).2; omega) | (intro e; simp_all; done) | (intro e; simp_all; omega))).trans ((n39.ext.block b' (by omega)).trans ((goy.block b' (by omega) (by first | assumption | omega | (intro e; have e2 := Option.some.inj e; omega) | (intro e; have := (hbo _ e.symm).2; omega) | (intro e; simp_all; done) | (intro e; simp_all; omega))).trans ((d38.ext.block b' (by omega)).trans (gt37.block b' (by omega) (by first | assumption | omega | (intro e; have e2 := Option.some.inj e; omega) | (intro e; have := (hbo _ e.symm).2; omega) | (intro e; simp_all; done) | (intro e; simp_all; omega))))))))))⟩) (by omega) _ _ f1_7), (u43.keep ht42 (heap_ne ht42 p43 (by decide))), hr42, (grown_upd (World.grownBy.trans (grown_upd (grown_own (grown_new (World.grownBy.trans (grown_drew (World.grownBy.trans (World.grownBy.trans (grown_refl w _) f1_11) gt37) d38) goy) n39) g40 (own_block_ge o40a)) u41 (by first | (left; omega) | (right; rfl))) gt42) u43 (by first | (left; omega) | (right; rfl)))⟩
      ·refine WO_callp rfl (by exact en_29) (ih (nn + 1) (by omega) (by omega) b tx37 _ (drew_keep d38 ht37) hr37) (by rintro wp hp; have hU : readA ws n = none ∧ w.grownBy wp (some b) := ⟨by rw [readA_step hw, hra, restF_end hkw (by rw [f1_1]; exact argsF_stop f1_2 ckw), elseF_fail ⟨kindW_if.2 celse.1, celse.2⟩ hp.1, endF_none], World.grownBy.trans (grown_drew (World.grownBy.trans (World.grownBy.trans (grown_refl w _) f1_11) gt37) d38) hp.2⟩; exact oneZ_panic (fun _ => (show Pan oddCh (fun v w' => OneT ws n b w v w') (fun w' => readA ws n = none ∧ w.grownBy w' (some b)) (.panicked oddCh) wp from Pan.pan hU))) ?_
       rintro _ woy ⟨ky, opy, nmy, evy, asy, my, txy, svy, cssy, hry, rfl, rxy, axy, hty, hRy, goy⟩
       have z_y := goy.size
       have hmy := readA_le hry
       have hgy := readA_gt hry
       refine WO_nil (oneZ_normal ?_)
       refine WZ_two 1 4 (by kernel_rfl) rfl rfl ?_ ?_
       ·refine WO_load (a := ⟨w21.heap.size, 4, none⟩) (v := sv) rfl rfl Tryz.underlying22 rfl (cell_of (grown_keep goy (drew_keep d38 (grown_keep gt37 k1_2 (by first | assumption | omega | (intro e; have e2 := Option.some.inj e; omega) | (simp; omega)))) (by first | assumption | omega | (intro e; have e2 := Option.some.inj e; omega) | (simp; omega))) rfl) ?_
        refine WO_nil (oneZ_normal ?_)
        refine WZ_only 4 (by kernel_rfl) rfl ?_
        refine WO_bslice (k := 1) (cs := #[(.int .i64 ky), (S nmy), (.int .i64 opy), (S evy), svy]) (e := 24) rfl (fun _ => by kernel_rfl) (fun w44 n44 => ?_)
        have e44 : w44.heap[woy.heap.size]? = some (.cells #[(.int .i64 ky), (S nmy), (.int .i64 opy), (S evy), svy] 24 (0, 0)) := n44.here
        have z44 := n44.size
        have o44 := n44.owned (base := w.heap.size) (size := 5) (k := 1) (by omega) (by omega) rfl
        refine WO_nil (oneZ_normal ?_)
        refine WZ_only 5 (by kernel_rfl) rfl ?_
        have o45a := (n44.owns (World.ownsRow.kept (drew_owns d38 (World.ownsRow.kept k1_4 gt37 (by first | assumption | (right; intro e; have := (k1_4.lt _ e).1; omega) | simp_all))) goy (by first | assumption | (right; intro e; have := (k1_4.lt _ e).1; omega) | simp_all)))
        refine WO_append1 (v := sv) (sz := 5) (base := w.heap.size) (bytes := 72) rfl rfl rfl Tryz.underlying22 (by kernel_rfl) (by decide) o45a rfl e44 (by intro v hv; simp only [List.mem_cons, List.not_mem_nil, or_false] at hv; rcases hv with hv | hv | hv | hv | hv <;> (rw [hv]; first | rfl | exact oneCell_is (rxy.1.ext n44.ext))) (by omega) (by omega) (by omega) (fun a45 w45 o45 g45 y45 => ?_)
        have z45 := g45.size
        have q45_0 : some w.heap.size ≠ Value.ownBlock a45 := by intro e; rcases y45 with y | y <;> rw [y] at e <;> first | (exact absurd e (by assumption)) | (have e2 : w.heap.size = _ := Option.some.inj e; omega) | (have e2 : _ = w.heap.size := Option.some.inj e; omega)
        have q45_1 : some w21.heap.size ≠ Value.ownBlock a45 := by intro e; rcases y45 with y | y <;> rw [y] at e <;> first | (exact absurd e (by assumption)) | (have e2 : w21.heap.size = _ := Option.some.inj e; omega) | (have e2 : _ = w21.heap.size := Option.some.inj e; omega)
        refine WO_nil (oneZ_normal ?_)
        refine WZ_take 6 rfl (by kernel_rfl) (by kernel_rfl) (by kernel_rfl) rfl (v := (.pointer (some ⟨w21.heap.size, 4, none⟩))) (fun _ => by kernel_rfl) ?_
        refine WZ_only 7 (by kernel_rfl) rfl ?_
        have p46 := (grown_keep g45 (n44.keep (grown_keep goy (drew_keep d38 (grown_keep gt37 k1_2 (by first | assumption | omega | (intro e; have e2 := Option.some.inj e; omega) | (simp; omega)))) (by first | assumption | omega | (intro e; have e2 := Option.some.inj e; omega) | (simp; omega)))) (by first | assumption | omega | (simp; omega)))
        refine WO_store (b := w21.heap.size) (o := 4) (v := a45) rfl rfl rfl (fun _ => by kernel_rfl) (oneC_owned o45) p46 (by simp) (fun w46 u46 => ?_)
        have e46 : w46.heap[w21.heap.size]? = some (.cells #[(.int .i64 (zIdx wordsL (atW ws ma) 0)), (S []), (.int .i64 0), (S []), a45] 24 (0, 0)) := u46.here
        have z46 := u46.size
        refine WO_nil (oneZ_normal ?_)
        refine WZ_done (by kernel_rfl) ?_
        refine W_seq ?_
        refine W_reg ?_
        refine WO_pure (v := (.pointer (some ⟨b, 0, none⟩))) rfl rfl ?_
        refine WO_call rfl (by exact en_48) (takeR_any ws my b txy _ (u46.keep (grown_keep g45 (n44.keep hty) (cell_ne_own o45a (n44.keep hty) (by decide))) (heap_ne (grown_keep g45 (n44.keep hty) (cell_ne_own o45a (n44.keep hty) (by decide))) p46 (by decide))) hRy) ?_
        rintro _ wt47 ⟨rfl, tx47, ht47, hr47, gt47⟩
        have z_t47 := gt47.size
        refine WO_seql (l1 := (atW ws my)) (l2 := [41]) rfl rfl rfl ?_
        refine WO_callp rfl (by exact en_30) (need_any (decide ((atW ws my) = [41])) _) (by rintro wp ⟨e_ok, rfl⟩; have hU : readA ws n = none ∧ w.grownBy wt47 (some b) := ⟨by rw [readA_step hw, hra, restF_end hkw (by rw [f1_1]; exact argsF_stop f1_2 ckw), elseF_more ⟨kindW_if.2 celse.1, celse.2⟩ hry, endF_no (by simpa using e_ok)], (World.grownBy.trans (grown_upd (grown_own (grown_new (World.grownBy.trans (grown_drew (World.grownBy.trans (World.grownBy.trans (grown_refl w _) f1_11) gt37) d38) goy) n44) g45 (own_block_ge o45a)) u46 (by first | (left; omega) | (right; rfl))) gt47)⟩; exact (show Pan oddCh (fun v w' => OneT ws n b w v w') (fun w' => readA ws n = none ∧ w.grownBy w' (some b)) (.panicked oddCh) wt47 from Pan.pan hU)) ?_
        rintro _ _ ⟨e_ok, rfl, rfl⟩
        refine WO_nil ?_
        refine W_seq ?_
        refine W_reg ?_
        refine WO_loadrow (b := w21.heap.size) (o := 0) (m := 5) (c := #[(.int .i64 (zIdx wordsL (atW ws ma) 0)), (S []), (.int .i64 0), (S []), a45]) rfl rfl Tryz.underlying24 rfl (fun _ => by kernel_rfl) (grown_keep gt47 e46 (by first | assumption | omega | (intro e; have e2 := Option.some.inj e; omega) | (simp; omega))) (by simp) ?_
        refine WO_eq 102 (v' := (.agg #[(.int .i64 (zIdx wordsL (atW ws ma) 0)), (S []), (.int .i64 0), (S []), a45])) rfl rfl ?_
        have p48 := (grown_keep gt47 (u46.keep (grown_keep g45 (n44.keep (grown_keep goy (drew_keep d38 (grown_keep gt37 k1_1 (by first | assumption | omega | (intro e; have e2 := Option.some.inj e; omega) | (simp; omega)))) (by first | assumption | omega | (intro e; have e2 := Option.some.inj e; omega) | (simp; omega)))) (by first | assumption | omega | (simp; omega))) (by first | assumption | omega | (simp; omega))) (by first | assumption | omega | (intro e; have e2 := Option.some.inj e; omega) | (simp; omega)))
        refine WO_storerow (b := w.heap.size) (o := 0) (c' := #[(.int .i64 (zIdx wordsL (atW ws ma) 0)), (S []), (.int .i64 0), (S []), a45]) rfl rfl rfl (fun _ => by kernel_rfl) (by rw [Array.all_eq_true_iff_forall_mem]; intro v hv; simp only [List.mem_toArray, List.mem_cons, List.not_mem_nil, or_false] at hv; rcases hv with hv | hv | hv | hv | hv <;> (rw [hv]; first | rfl | exact oneCell_owned (World.ownsRow.kept (u46.owns o45 (by first | assumption | (exact Ne.symm (by assumption)) | (simp_all; done) | (intro e; have := (o45.lt _ e).2; omega))) gt47 (by first | assumption | (right; intro e; have := (o45.lt _ e).1; omega) | simp_all)))) p48 (by simp) (fun w48 u48 => ?_)
        have e48 : w48.heap[w.heap.size]? = some (.cells #[(.int .i64 (zIdx wordsL (atW ws ma) 0)), (S []), (.int .i64 0), (S []), a45] 24 (0, 0)) := u48.here
        have z48 := u48.size
        refine WO_nil ?_
        refine W_ret ?_
        refine body_retpc1 (b := w.heap.size) (c := #[(.int .i64 (zIdx wordsL (atW ws ma) 0)), (S []), (.int .i64 0), (S []), a45]) rfl rfl Tryz.underlying24 rfl (fun _ => by kernel_rfl) e48 ?_
        have ha : argsF (readA ws) ws (atW ws ma) (ws.length + 1) [(DepT.mk ka nma opa eva asa)] ma = some (args, nn) := by rw [f1_1]; exact argsF_stop f1_2 ckw
        refine ⟨_, _, _, _, (args ++ [(DepT.mk ky nmy opy evy asy)]), (my + 1), _, _, (css ++ [[.int .i64 ky, S nmy, .int .i64 opy, S evy, svy]]), by rw [readA_step hw, hra, restF_end hkw ha, elseF_more ⟨kindW_if.2 celse.1, celse.2⟩ hry, endF_yes (by simpa using e_ok), ← hkk], rfl, RowX.owned (xs := (css ++ [[.int .i64 ky, S nmy, .int .i64 opy, S evy, svy]]).flatten) (by simpa using (u48.owns (World.ownsRow.kept (u46.owns o45 (by first | assumption | (exact Ne.symm (by assumption)) | (simp_all; done) | (intro e; have := (o45.lt _ e).2; omega))) gt47 (by first | assumption | (right; intro e; have := (o45.lt _ e).1; omega) | simp_all)) (by first | assumption | (exact Ne.symm (by assumption)) | (simp_all; done) | (intro e; have := (o45.lt _ e).2; omega)))) (fun k _ h => h), ArgsX.snoc (DepX.intro (RowX.go rxy (fun b' hb' hp => by change _ ≤ b' at hp; exact ⟨by omega, ((u48.block b' (by first | assumption | omega | (intro e; have e2 := Option.some.inj e; omega) | (intro e; have := (hbo _ e.symm).2; omega) | (intro e; simp_all; done) | (intro e; simp_all; omega))).trans ((gt47.block b' (by omega) (by first | assumption | omega | (intro e; have e2 := Option.some.inj e; omega) | (intro e; have := (hbo _ e.symm).2; omega) | (intro e; simp_all; done) | (intro e; simp_all; omega))).trans ((u46.block b' (by first | assumption | omega | (intro e; have e2 := Option.some.inj e; omega) | (intro e; have := (hbo _ e.symm).2; omega) | (intro e; simp_all; done) | (intro e; simp_all; omega))).trans ((g45.block b' (by omega) (by first | assumption | omega | (intro e; have e2 := Option.some.inj e; omega) | (intro e; have := (hbo _ e.symm).2; omega) | (intro e; have := ((o45a).lt _ e.symm).2; omega) | (intro e; simp_all; done) | (intro e; simp_all; omega))).trans (n44.ext.block b' (by omega))))))⟩) (by omega)) (ArgsX.go (fun b' hb' hp => by change _ ≤ b' at hp; exact ⟨by omega, ((u48.block b' (by first | assumption | omega | (intro e; have e2 := Option.some.inj e; omega) | (intro e; have := (hbo _ e.symm).2; omega) | (intro e; simp_all; done) | (intro e; simp_all; omega))).trans ((gt47.block b' (by omega) (by first | assumption | omega | (intro e; have e2 := Option.some.inj e; omega) | (intro e; have := (hbo _ e.symm).2; omega) | (intro e; simp_all; done) | (intro e; simp_all; omega))).trans ((u46.block b' (by first | assumption | omega | (intro e; have e2 := Option.some.inj e; omega) | (intro e; have := (hbo _ e.symm).2; omega) | (intro e; simp_all; done) | (intro e; simp_all; omega))).trans ((g45.block b' (by omega) (by first | assumption | omega | (intro e; have e2 := Option.some.inj e; omega) | (intro e; have := (hbo _ e.symm).2; omega) | (intro e; have := ((o45a).lt _ e.symm).2; omega) | (intro e; simp_all; done) | (intro e; simp_all; omega))).trans (n44.ext.block b' (by omega))))))⟩) (by omega) _ _ axy)) (ArgsX.go (fun b' hb' hp => by obtain ⟨hp1, hp2, hp3⟩ := hp; exact ⟨by omega, ((u48.block b' (by first | assumption | omega | (intro e; have e2 := Option.some.inj e; omega) | (intro e; have := (hbo _ e.symm).2; omega) | (intro e; simp_all; done) | (intro e; simp_all; omega))).trans ((gt47.block b' (by omega) (by first | assumption | omega | (intro e; have e2 := Option.some.inj e; omega) | (intro e; have := (hbo _ e.symm).2; omega) | (intro e; simp_all; done) | (intro e; simp_all; omega))).trans ((u46.block b' (by first | assumption | omega | (intro e; have e2 := Option.some.inj e; omega) | (intro e; have := (hbo _ e.symm).2; omega) | (intro e; simp_all; done) | (intro e; simp_all; omega))).trans ((g45.block b' (by omega) (by first | assumption | omega | (intro e; have e2 := Option.some.inj e; omega) | (intro e; have := (hbo _ e.symm).2; omega) | (intro e; have := ((o45a).lt _ e.symm).2; omega) | (intro e; simp_all; done) | (intro e; simp_all; omega))).trans ((n44.ext.block b' (by omega)).trans ((goy.block b' (by omega) (by first | assumption | omega | (intro e; have e2 := Option.some.inj e; omega) | (intro e; have := (hbo _ e.symm).2; omega) | (intro e; simp_all; done) | (intro e; simp_all; omega))).trans ((d38.ext.block b' (by omega)).trans (gt37.block b' (by omega) (by first | assumption | omega | (intro e; have e2 := Option.some.inj e; omega) | (intro e; have := (hbo _ e.symm).2; omega) | (intro e; simp_all; done) | (intro e; simp_all; omega))))))))))⟩) (by omega) _ _ f1_7), (u48.keep ht47 (heap_ne ht47 p48 (by decide))), hr47, (grown_upd (World.grownBy.trans (grown_upd (grown_own (grown_new (World.grownBy.trans (grown_drew (World.grownBy.trans (World.grownBy.trans (grown_refl w _) f1_11) gt37) d38) goy) n44) g45 (own_block_ge o45a)) u46 (by first | (left; omega) | (right; rfl))) gt47) u48 (by first | (left; omega) | (right; rfl)))⟩
       ·refine WO_bslice (k := 1) (cs := #[(.int .i64 ky), (S nmy), (.int .i64 opy), (S evy), svy]) (e := 24) rfl (fun _ => by kernel_rfl) (fun w49 n49 => ?_)
        have e49 : w49.heap[woy.heap.size]? = some (.cells #[(.int .i64 ky), (S nmy), (.int .i64 opy), (S evy), svy] 24 (0, 0)) := n49.here
        have z49 := n49.size
        have o49 := n49.owned (base := w.heap.size) (size := 5) (k := 1) (by omega) (by omega) rfl
        refine WO_nil (oneZ_normal ?_)
        refine WZ_only 1 (by kernel_rfl) rfl ?_
        refine WO_load (a := ⟨w21.heap.size, 4, none⟩) (v := sv) rfl rfl Tryz.underlying22 rfl (cell_of (n49.keep (grown_keep goy (drew_keep d38 (grown_keep gt37 k1_2 (by first | assumption | omega | (intro e; have e2 := Option.some.inj e; omega) | (simp; omega)))) (by first | assumption | omega | (intro e; have e2 := Option.some.inj e; omega) | (simp; omega)))) rfl) ?_
        refine WO_nil (oneZ_normal ?_)
        refine WZ_only 5 (by kernel_rfl) rfl ?_
        have o50a := (n49.owns (World.ownsRow.kept (drew_owns d38 (World.ownsRow.kept k1_4 gt37 (by first | assumption | (right; intro e; have := (k1_4.lt _ e).1; omega) | simp_all))) goy (by first | assumption | (right; intro e; have := (k1_4.lt _ e).1; omega) | simp_all)))
        refine WO_append1 (v := sv) (sz := 5) (base := w.heap.size) (bytes := 72) rfl rfl rfl Tryz.underlying22 (by kernel_rfl) (by decide) o50a rfl e49 (by intro v hv; simp only [List.mem_cons, List.not_mem_nil, or_false] at hv; rcases hv with hv | hv | hv | hv | hv <;> (rw [hv]; first | rfl | exact oneCell_is (rxy.1.ext n49.ext))) (by omega) (by omega) (by omega) (fun a50 w50 o50 g50 y50 => ?_)
        have z50 := g50.size
        have q50_0 : some w.heap.size ≠ Value.ownBlock a50 := by intro e; rcases y50 with y | y <;> rw [y] at e <;> first | (exact absurd e (by assumption)) | (have e2 : w.heap.size = _ := Option.some.inj e; omega) | (have e2 : _ = w.heap.size := Option.some.inj e; omega)
        have q50_1 : some w21.heap.size ≠ Value.ownBlock a50 := by intro e; rcases y50 with y | y <;> rw [y] at e <;> first | (exact absurd e (by assumption)) | (have e2 : w21.heap.size = _ := Option.some.inj e; omega) | (have e2 : _ = w21.heap.size := Option.some.inj e; omega)
        refine WO_nil (oneZ_normal ?_)
        refine WZ_take 6 rfl (by kernel_rfl) (by kernel_rfl) (by kernel_rfl) rfl (v := (.pointer (some ⟨w21.heap.size, 4, none⟩))) (fun _ => by kernel_rfl) ?_
        refine WZ_only 7 (by kernel_rfl) rfl ?_
        have p51 := (grown_keep g50 (n49.keep (grown_keep goy (drew_keep d38 (grown_keep gt37 k1_2 (by first | assumption | omega | (intro e; have e2 := Option.some.inj e; omega) | (simp; omega)))) (by first | assumption | omega | (intro e; have e2 := Option.some.inj e; omega) | (simp; omega)))) (by first | assumption | omega | (simp; omega)))
        refine WO_store (b := w21.heap.size) (o := 4) (v := a50) rfl rfl rfl (fun _ => by kernel_rfl) (oneC_owned o50) p51 (by simp) (fun w51 u51 => ?_)
        have e51 : w51.heap[w21.heap.size]? = some (.cells #[(.int .i64 (zIdx wordsL (atW ws ma) 0)), (S []), (.int .i64 0), (S []), a50] 24 (0, 0)) := u51.here
        have z51 := u51.size
        refine WO_nil (oneZ_normal ?_)
        refine WZ_done (by kernel_rfl) ?_
        refine W_seq ?_
        refine W_reg ?_
        refine WO_pure (v := (.pointer (some ⟨b, 0, none⟩))) rfl rfl ?_
        refine WO_call rfl (by exact en_48) (takeR_any ws my b txy _ (u51.keep (grown_keep g50 (n49.keep hty) (cell_ne_own o50a (n49.keep hty) (by decide))) (heap_ne (grown_keep g50 (n49.keep hty) (cell_ne_own o50a (n49.keep hty) (by decide))) p51 (by decide))) hRy) ?_
        rintro _ wt52 ⟨rfl, tx52, ht52, hr52, gt52⟩
        have z_t52 := gt52.size
        refine WO_seql (l1 := (atW ws my)) (l2 := [41]) rfl rfl rfl ?_
        refine WO_callp rfl (by exact en_30) (need_any (decide ((atW ws my) = [41])) _) (by rintro wp ⟨e_ok, rfl⟩; have hU : readA ws n = none ∧ w.grownBy wt52 (some b) := ⟨by rw [readA_step hw, hra, restF_end hkw (by rw [f1_1]; exact argsF_stop f1_2 ckw), elseF_more ⟨kindW_if.2 celse.1, celse.2⟩ hry, endF_no (by simpa using e_ok)], (World.grownBy.trans (grown_upd (grown_own (grown_new (World.grownBy.trans (grown_drew (World.grownBy.trans (World.grownBy.trans (grown_refl w _) f1_11) gt37) d38) goy) n49) g50 (own_block_ge o50a)) u51 (by first | (left; omega) | (right; rfl))) gt52)⟩; exact (show Pan oddCh (fun v w' => OneT ws n b w v w') (fun w' => readA ws n = none ∧ w.grownBy w' (some b)) (.panicked oddCh) wt52 from Pan.pan hU)) ?_
        rintro _ _ ⟨e_ok, rfl, rfl⟩
        refine WO_nil ?_
        refine W_seq ?_
        refine W_reg ?_
        refine WO_loadrow (b := w21.heap.size) (o := 0) (m := 5) (c := #[(.int .i64 (zIdx wordsL (atW ws ma) 0)), (S []), (.int .i64 0), (S []), a50]) rfl rfl Tryz.underlying24 rfl (fun _ => by kernel_rfl) (grown_keep gt52 e51 (by first | assumption | omega | (intro e; have e2 := Option.some.inj e; omega) | (simp; omega))) (by simp) ?_
        refine WO_eq 102 (v' := (.agg #[(.int .i64 (zIdx wordsL (atW ws ma) 0)), (S []), (.int .i64 0), (S []), a50])) rfl rfl ?_
        have p53 := (grown_keep gt52 (u51.keep (grown_keep g50 (n49.keep (grown_keep goy (drew_keep d38 (grown_keep gt37 k1_1 (by first | assumption | omega | (intro e; have e2 := Option.some.inj e; omega) | (simp; omega)))) (by first | assumption | omega | (intro e; have e2 := Option.some.inj e; omega) | (simp; omega)))) (by first | assumption | omega | (simp; omega))) (by first | assumption | omega | (simp; omega))) (by first | assumption | omega | (intro e; have e2 := Option.some.inj e; omega) | (simp; omega)))
        refine WO_storerow (b := w.heap.size) (o := 0) (c' := #[(.int .i64 (zIdx wordsL (atW ws ma) 0)), (S []), (.int .i64 0), (S []), a50]) rfl rfl rfl (fun _ => by kernel_rfl) (by rw [Array.all_eq_true_iff_forall_mem]; intro v hv; simp only [List.mem_toArray, List.mem_cons, List.not_mem_nil, or_false] at hv; rcases hv with hv | hv | hv | hv | hv <;> (rw [hv]; first | rfl | exact oneCell_owned (World.ownsRow.kept (u51.owns o50 (by first | assumption | (exact Ne.symm (by assumption)) | (simp_all; done) | (intro e; have := (o50.lt _ e).2; omega))) gt52 (by first | assumption | (right; intro e; have := (o50.lt _ e).1; omega) | simp_all)))) p53 (by simp) (fun w53 u53 => ?_)
        have e53 : w53.heap[w.heap.size]? = some (.cells #[(.int .i64 (zIdx wordsL (atW ws ma) 0)), (S []), (.int .i64 0), (S []), a50] 24 (0, 0)) := u53.here
        have z53 := u53.size
        refine WO_nil ?_
        refine W_ret ?_
        refine body_retpc1 (b := w.heap.size) (c := #[(.int .i64 (zIdx wordsL (atW ws ma) 0)), (S []), (.int .i64 0), (S []), a50]) rfl rfl Tryz.underlying24 rfl (fun _ => by kernel_rfl) e53 ?_
        have ha : argsF (readA ws) ws (atW ws ma) (ws.length + 1) [(DepT.mk ka nma opa eva asa)] ma = some (args, nn) := by rw [f1_1]; exact argsF_stop f1_2 ckw
        refine ⟨_, _, _, _, (args ++ [(DepT.mk ky nmy opy evy asy)]), (my + 1), _, _, (css ++ [[.int .i64 ky, S nmy, .int .i64 opy, S evy, svy]]), by rw [readA_step hw, hra, restF_end hkw ha, elseF_more ⟨kindW_if.2 celse.1, celse.2⟩ hry, endF_yes (by simpa using e_ok), ← hkk], rfl, RowX.owned (xs := (css ++ [[.int .i64 ky, S nmy, .int .i64 opy, S evy, svy]]).flatten) (by simpa using (u53.owns (World.ownsRow.kept (u51.owns o50 (by first | assumption | (exact Ne.symm (by assumption)) | (simp_all; done) | (intro e; have := (o50.lt _ e).2; omega))) gt52 (by first | assumption | (right; intro e; have := (o50.lt _ e).1; omega) | simp_all)) (by first | assumption | (exact Ne.symm (by assumption)) | (simp_all; done) | (intro e; have := (o50.lt _ e).2; omega)))) (fun k _ h => h), ArgsX.snoc (DepX.intro (RowX.go rxy (fun b' hb' hp => by change _ ≤ b' at hp; exact ⟨by omega, ((u53.block b' (by first | assumption | omega | (intro e; have e2 := Option.some.inj e; omega) | (intro e; have := (hbo _ e.symm).2; omega) | (intro e; simp_all; done) | (intro e; simp_all; omega))).trans ((gt52.block b' (by omega) (by first | assumption | omega | (intro e; have e2 := Option.some.inj e; omega) | (intro e; have := (hbo _ e.symm).2; omega) | (intro e; simp_all; done) | (intro e; simp_all; omega))).trans ((u51.block b' (by first | assumption | omega | (intro e; have e2 := Option.some.inj e; omega) | (intro e; have := (hbo _ e.symm).2; omega) | (intro e; simp_all; done) | (intro e; simp_all; omega))).trans ((g50.block b' (by omega) (by first | assumption | omega | (intro e; have e2 := Option.some.inj e; omega) | (intro e; have := (hbo _ e.symm).2; omega) | (intro e; have := ((o50a).lt _ e.symm).2; omega) | (intro e; simp_all; done) | (intro e; simp_all; omega))).trans (n49.ext.block b' (by omega))))))⟩) (by omega)) (ArgsX.go (fun b' hb' hp => by change _ ≤ b' at hp; exact ⟨by omega, ((u53.block b' (by first | assumption | omega | (intro e; have e2 := Option.some.inj e; omega) | (intro e; have := (hbo _ e.symm).2; omega) | (intro e; simp_all; done) | (intro e; simp_all; omega))).trans ((gt52.block b' (by omega) (by first | assumption | omega | (intro e; have e2 := Option.some.inj e; omega) | (intro e; have := (hbo _ e.symm).2; omega) | (intro e; simp_all; done) | (intro e; simp_all; omega))).trans ((u51.block b' (by first | assumption | omega | (intro e; have e2 := Option.some.inj e; omega) | (intro e; have := (hbo _ e.symm).2; omega) | (intro e; simp_all; done) | (intro e; simp_all; omega))).trans ((g50.block b' (by omega) (by first | assumption | omega | (intro e; have e2 := Option.some.inj e; omega) | (intro e; have := (hbo _ e.symm).2; omega) | (intro e; have := ((o50a).lt _ e.symm).2; omega) | (intro e; simp_all; done) | (intro e; simp_all; omega))).trans (n49.ext.block b' (by omega))))))⟩) (by omega) _ _ axy)) (ArgsX.go (fun b' hb' hp => by obtain ⟨hp1, hp2, hp3⟩ := hp; exact ⟨by omega, ((u53.block b' (by first | assumption | omega | (intro e; have e2 := Option.some.inj e; omega) | (intro e; have := (hbo _ e.symm).2; omega) | (intro e; simp_all; done) | (intro e; simp_all; omega))).trans ((gt52.block b' (by omega) (by first | assumption | omega | (intro e; have e2 := Option.some.inj e; omega) | (intro e; have := (hbo _ e.symm).2; omega) | (intro e; simp_all; done) | (intro e; simp_all; omega))).trans ((u51.block b' (by first | assumption | omega | (intro e; have e2 := Option.some.inj e; omega) | (intro e; have := (hbo _ e.symm).2; omega) | (intro e; simp_all; done) | (intro e; simp_all; omega))).trans ((g50.block b' (by omega) (by first | assumption | omega | (intro e; have e2 := Option.some.inj e; omega) | (intro e; have := (hbo _ e.symm).2; omega) | (intro e; have := ((o50a).lt _ e.symm).2; omega) | (intro e; simp_all; done) | (intro e; simp_all; omega))).trans ((n49.ext.block b' (by omega)).trans ((goy.block b' (by omega) (by first | assumption | omega | (intro e; have e2 := Option.some.inj e; omega) | (intro e; have := (hbo _ e.symm).2; omega) | (intro e; simp_all; done) | (intro e; simp_all; omega))).trans ((d38.ext.block b' (by omega)).trans (gt37.block b' (by omega) (by first | assumption | omega | (intro e; have e2 := Option.some.inj e; omega) | (intro e; have := (hbo _ e.symm).2; omega) | (intro e; simp_all; done) | (intro e; simp_all; omega))))))))))⟩) (by omega) _ _ f1_7), (u53.keep ht52 (heap_ne ht52 p53 (by decide))), hr52, (grown_upd (World.grownBy.trans (grown_upd (grown_own (grown_new (World.grownBy.trans (grown_drew (World.grownBy.trans (World.grownBy.trans (grown_refl w _) f1_11) gt37) d38) goy) n49) g50 (own_block_ge o50a)) u51 (by first | (left; omega) | (right; rfl))) gt52) u53 (by first | (left; omega) | (right; rfl)))⟩
     ·refine W_skip ?_
      refine W_seq ?_
      refine W_reg ?_
      have ckw := c4
      have celse := c8
      refine WO_pure (v := (.pointer (some ⟨b, 0, none⟩))) rfl rfl ?_
      refine WO_call rfl (by exact en_48) (takeR_any ws nn b tx _ k1_3 f1_10) ?_
      rintro _ wt54 ⟨rfl, tx54, ht54, hr54, gt54⟩
      have z_t54 := gt54.size
      refine WO_seql (l1 := (atW ws nn)) (l2 := [41]) rfl rfl rfl ?_
      refine WO_callp rfl (by exact en_30) (need_any (decide ((atW ws nn) = [41])) _) (by rintro wp ⟨e_ok, rfl⟩; have hU : readA ws n = none ∧ w.grownBy wt54 (some b) := ⟨by rw [readA_step hw, hra, restF_end hkw (by rw [f1_1]; exact argsF_stop f1_2 ckw), elseF_no (fun h => celse ⟨kindW_if.1 h.1, h.2⟩), endF_no (by simpa using e_ok)], (World.grownBy.trans (World.grownBy.trans (grown_refl w _) f1_11) gt54)⟩; exact (show Pan oddCh (fun v w' => OneT ws n b w v w') (fun w' => readA ws n = none ∧ w.grownBy w' (some b)) (.panicked oddCh) wt54 from Pan.pan hU)) ?_
      rintro _ _ ⟨e_ok, rfl, rfl⟩
      refine WO_nil ?_
      refine W_seq ?_
      refine W_reg ?_
      refine WO_loadrow (b := w21.heap.size) (o := 0) (m := 5) (c := #[(.int .i64 (zIdx wordsL (atW ws ma) 0)), (S []), (.int .i64 0), (S []), sv]) rfl rfl Tryz.underlying24 rfl (fun _ => by kernel_rfl) (grown_keep gt54 k1_2 (by first | assumption | omega | (intro e; have e2 := Option.some.inj e; omega) | (simp; omega))) (by simp) ?_
      refine WO_eq 102 (v' := (.agg #[(.int .i64 (zIdx wordsL (atW ws ma) 0)), (S []), (.int .i64 0), (S []), sv])) rfl rfl ?_
      have p55 := (grown_keep gt54 k1_1 (by first | assumption | omega | (intro e; have e2 := Option.some.inj e; omega) | (simp; omega)))
      refine WO_storerow (b := w.heap.size) (o := 0) (c' := #[(.int .i64 (zIdx wordsL (atW ws ma) 0)), (S []), (.int .i64 0), (S []), sv]) rfl rfl rfl (fun _ => by kernel_rfl) (by rw [Array.all_eq_true_iff_forall_mem]; intro v hv; simp only [List.mem_toArray, List.mem_cons, List.not_mem_nil, or_false] at hv; rcases hv with hv | hv | hv | hv | hv <;> (rw [hv]; first | rfl | exact oneCell_owned (World.ownsRow.kept k1_4 gt54 (by first | assumption | (right; intro e; have := (k1_4.lt _ e).1; omega) | simp_all)))) p55 (by simp) (fun w55 u55 => ?_)
      have e55 : w55.heap[w.heap.size]? = some (.cells #[(.int .i64 (zIdx wordsL (atW ws ma) 0)), (S []), (.int .i64 0), (S []), sv] 24 (0, 0)) := u55.here
      have z55 := u55.size
      refine WO_nil ?_
      refine W_ret ?_
      refine body_retpc1 (b := w.heap.size) (c := #[(.int .i64 (zIdx wordsL (atW ws ma) 0)), (S []), (.int .i64 0), (S []), sv]) rfl rfl Tryz.underlying24 rfl (fun _ => by kernel_rfl) e55 ?_
      have ha : argsF (readA ws) ws (atW ws ma) (ws.length + 1) [(DepT.mk ka nma opa eva asa)] ma = some (args, nn) := by rw [f1_1]; exact argsF_stop f1_2 ckw
      refine ⟨_, _, _, _, args, (nn + 1), _, _, css, by rw [readA_step hw, hra, restF_end hkw ha, elseF_no (fun h => celse ⟨kindW_if.1 h.1, h.2⟩), endF_yes (by simpa using e_ok), ← hkk], rfl, RowX.owned (u55.owns (World.ownsRow.kept k1_4 gt54 (by first | assumption | (right; intro e; have := (k1_4.lt _ e).1; omega) | simp_all)) (by first | assumption | (exact Ne.symm (by assumption)) | (simp_all; done) | (intro e; have := (k1_4.lt _ e).2; omega))) (fun k _ h => h), ArgsX.go (fun b' hb' hp => by obtain ⟨hp1, hp2, hp3⟩ := hp; exact ⟨by omega, ((u55.block b' (by first | assumption | omega | (intro e; have e2 := Option.some.inj e; omega) | (intro e; have := (hbo _ e.symm).2; omega) | (intro e; simp_all; done) | (intro e; simp_all; omega))).trans (gt54.block b' (by omega) (by first | assumption | omega | (intro e; have e2 := Option.some.inj e; omega) | (intro e; have := (hbo _ e.symm).2; omega) | (intro e; simp_all; done) | (intro e; simp_all; omega))))⟩) (by omega) _ _ f1_7, (u55.keep ht54 (heap_ne ht54 p55 (by decide))), hr54, (grown_upd (World.grownBy.trans (World.grownBy.trans (grown_refl w _) f1_11) gt54) u55 (by first | (left; omega) | (right; rfl)))⟩
end Go.Proofs.YtaegacblpbbndaaGreatDoor
end
section
namespace Go.Proofs.YtaegacblpbbndaaGreatDoor
open Go Go.RowKit
theorem W_any {P : Program} {n : Nat} {c : Code} {Q : Exit → Act → World → Prop} {σ : Nat → Value} {w : World} (h : W P n c (fun e σ w => Q e (mk n σ) w) σ w) : c.wp P Q (mk n σ) w := by
  unfold W at h
  refine wp_mono h ?_
  rintro e a w ⟨σ', rfl, q⟩; exact q
theorem W_top {P : Program} {n : Nat} {x y : Code} {Q : Exit → Act → World → Prop} {σ : Nat → Value} {w : World} (h : W P n x (seqQ (fun σ w => y.wp P Q (mk n σ) w) (fun _ _ _ => False)) σ w) : (Code.seq x y).wp P Q (mk n σ) w := by
  unfold W at h
  refine wp_seq (wp_mono h ?_)
  rintro e a w ⟨σ', rfl, q⟩
  cases e <;> first | exact q | exact q.elim
namespace D
def mk (ds : List Deferred) (n : Nat) (σ : Nat → Value) : Act := { tmps := Array.ofFn (n := n) (fun i => σ i.1), defers := ds }
def lift (ds : List Deferred) (n : Nat) (Q : Exit → (Nat → Value) → World → Prop) : Exit → Act → World → Prop := fun e a w => ∃ σ, a = mk ds n σ ∧ Q e σ w
def W (P : Program) (ds : List Deferred) (n : Nat) (c : Code) (Q : Exit → (Nat → Value) → World → Prop) (σ : Nat → Value) (w : World) : Prop := c.wp P (lift ds n Q) (mk ds n σ) w
def WO (P : Program) (ds : List Deferred) (n : Nat) (ops : Array Oper) (l : List Oper) (Q : Exit → (Nat → Value) → World → Prop) (σ : Nat → Value) (w : World) : Prop :=
  wpList P ops (lift ds n Q) l (mk ds n σ) w
theorem mk_getD (ds : List Deferred) (n : Nat) (σ : Nat → Value) (t : Nat) : (mk ds n σ).tmps.getD t undef = sl n σ t := by
  simp only [mk, sl, Array.getD_eq_getD_getElem?, Array.getElem?_ofFn]
  by_cases h : t < n
  · have : Nat.blt t n = true := by simpa [Nat.blt_eq] using h
    simp [h, this]
  · have : Nat.blt t n = false := by rw [Bool.eq_false_iff]; intro h'; exact h (by simpa [Nat.blt_eq] using h')
    simp [h, this]
theorem mk_eval (ds : List Deferred) (n : Nat) (σ : Nat → Value) : (mk ds n σ).eval = ev n σ := by
  funext x
  cases x with
  | tmp t => exact mk_getD ds n σ t
  | const v => rfl
  | global g => rfl
  | func f => rfl
theorem mk_put (ds : List Deferred) (n : Nat) (σ : Nat → Value) (d : Option Nat) (v : Value) : (mk ds n σ).put d v = mk ds n (updo σ d v) := by
  cases d with
  | none => rfl
  | some d =>
    simp only [mk, Act.put, updo]
    congr 1
    apply Array.ext
    · simp
    · intro i h1 h2
      simp only [Array.getElem_ofFn, upd]
      rw [Array.getElem_setIfInBounds (by simpa using h1)]
      by_cases h : d = i
      · subst h; simp
      · have : Nat.beq i d = false := by rw [Bool.eq_false_iff]; intro h'; exact h (Nat.eq_of_beq_eq_true h').symm
        simp [h, this]
theorem wanted_mk (ops : Array Oper) (ds : List Deferred) (n : Nat) (σ : Nat → Value) (o : Oper) : Region.wanted o (yielded ops (mk ds n σ).tmps) = gOk ops n σ o.guard := Proofs.YtaegacblpbbndaaGreatDoor.wanted_mk ops n σ o
section
variable {P : Program} {ds : List Deferred} {n : Nat} {Q : Exit → (Nat → Value) → World → Prop} {σ : Nat → Value} {w : World}
theorem W_mono {c : Code} {Q' : Exit → (Nat → Value) → World → Prop} (h : W P ds n c Q σ w) (hq : ∀ e σ w, Q e σ w → Q' e σ w) : W P ds n c Q' σ w :=
  wp_mono h fun _ _ _ ⟨σ', ha, q⟩ => ⟨σ', ha, hq _ _ _ q⟩
theorem W_seq {x y : Code} (h : W P ds n x (seqQ (W P ds n y Q) Q) σ w) : W P ds n (.seq x y) Q σ w := by
  refine wp_seq (wp_mono h ?_)
  rintro e a w ⟨σ', rfl, q⟩
  cases e <;> first | exact q | exact ⟨σ', rfl, q⟩
theorem W_skip (h : Q .normal σ w) : W P ds n .skip Q σ w := wp_skip ⟨σ, rfl, h⟩
theorem W_ret (h : Q .ret σ w) : W P ds n .ret Q σ w := wp_ret ⟨σ, rfl, h⟩
theorem W_cond {c : Operand} {x y : Code} {t : Bool} (hc : ev n σ c = .bool t) (ht : t = true → W P ds n x Q σ w) (hf : t = false → W P ds n y Q σ w) :
    W P ds n (.cond c x y) Q σ w :=
  wp_cond_split (by rw [mk_eval]; exact hc) ht hf
theorem W_true {c : Operand} {x y : Code} (hc : ev n σ c = .bool true) (h : W P ds n x Q σ w) : W P ds n (.cond c x y) Q σ w :=
  wp_cond_true (by rw [mk_eval]; exact hc) h
theorem W_false {c : Operand} {x y : Code} (hc : ev n σ c = .bool false) (h : W P ds n y Q σ w) : W P ds n (.cond c x y) Q σ w :=
  wp_cond_false (by rw [mk_eval]; exact hc) h
theorem W_if {c : Operand} {x y : Code} {p : Prop} [Decidable p] (hc : ev n σ c = .bool (decide p)) (ht : p → W P ds n x Q σ w) (hf : ¬ p → W P ds n y Q σ w) :
    W P ds n (.cond c x y) Q σ w :=
  W_cond hc (fun h => ht (of_decide_eq_true h)) (fun h => hf (of_decide_eq_false h))
theorem W_reg {id : Nat} {l : List Oper} (h : WO P ds n l.toArray l Q σ w) : W P ds n (.region id l.toArray false) Q σ w := wp_region_lit h
theorem WO_nil {ops : Array Oper} (h : Q .normal σ w) : WO P ds n ops [] Q σ w := ⟨σ, rfl, h⟩
theorem WO_val {ops : Array Oper} {o : Oper} {rest : List Oper} {v : Value} {w' : World} (hg : gOk ops n σ o.guard = true)
    (h : (execOp (ev n σ) o).run P w = .ok (.value v) w') (next : WO P ds n ops rest Q (updo σ o.dst v) w') : WO P ds n ops (o :: rest) Q σ w := by
  unfold WO wpList
  rw [wanted_mk, hg, if_pos rfl]
  left
  unfold Oper.wp
  rw [mk_eval, h, Oper.upon_value, mk_put]
  exact next
theorem WO_same {ops : Array Oper} {o : Oper} {rest : List Oper} {v : Value} (hg : gOk ops n σ o.guard = true)
    (h : (execOp (ev n σ) o).run P w = .ok (.value v) w) (next : WO P ds n ops rest Q (updo σ o.dst v) w) : WO P ds n ops (o :: rest) Q σ w := WO_val hg h next
theorem WO_unit {ops : Array Oper} {o : Oper} {rest : List Oper} {w' : World} (hg : gOk ops n σ o.guard = true)
    (h : (execOp (ev n σ) o).run P w = .ok .skip w') (next : WO P ds n ops rest Q (updo σ o.dst undef) w') : WO P ds n ops (o :: rest) Q σ w := by
  unfold WO wpList
  rw [wanted_mk, hg, if_pos rfl]
  left
  unfold Oper.wp
  rw [mk_eval, h, Oper.upon_skip, mk_put]
  exact next
theorem WO_pass {ops : Array Oper} {o : Oper} {rest : List Oper} (hg : gOk ops n σ o.guard = false)
    (next : WO P ds n ops rest Q (updo σ o.dst undef) w) : WO P ds n ops (o :: rest) Q σ w := by
  unfold WO wpList
  rw [wanted_mk, hg, if_neg (by simp)]
  rw [mk_put]
  exact next
theorem WO_enter {ops : Array Oper} {o : Oper} {rest : List Oper} {f : FuncId} {args : Array Value} {w' : World} {R : Ending → World → Prop} (hg : gOk ops n σ o.guard = true)
    (h : (execOp (ev n σ) o).run P w = .ok (.enter f args) w') (hc : Calls P f args w' R)
    (next : ∀ v w'', R (.returned v) w'' → WO P ds n ops rest Q (updo σ o.dst v) w'')
    (nop : ∀ ch w'', R (.panicked ch) w'' → Q (.panic ch) σ w'')
    (noo : ∀ w'', ¬ R .outgrown w'') : WO P ds n ops (o :: rest) Q σ w := by
  unfold WO wpList
  rw [wanted_mk, hg, if_pos rfl]
  left
  unfold Oper.wp
  rw [mk_eval, h, Oper.upon_enter]
  refine hc.mono ?_
  intro e w'' hR
  cases e with
  | returned v => show wpList _ _ _ _ _ _; rw [mk_put]; exact next v w'' hR
  | panicked ch => exact ⟨σ, rfl, nop ch w'' hR⟩
  | outgrown => exact (noo w'' hR).elim
theorem WO_eq {ops : Array Oper} {l : List Oper} (t : Nat) {v v' : Value} (h : σ t = v) (e : v = v') (k : WO P ds n ops l Q (upd σ t v') w) : WO P ds n ops l Q σ w := by
  rw [upd_id (h.trans e)]; exact k
theorem WO_pure {ops : Array Oper} {o : Oper} {rest : List Oper} {v : Value} (hg : gOk ops n σ o.guard = true) (h : pureOp n σ o.op = some v)
    (next : WO P ds n ops rest Q (updo σ o.dst v) w) : WO P ds n ops (o :: rest) Q σ w := WO_val hg (pure_run h) next
theorem W_anchor {c : Code} {d : Nat} {v : Value} (h : σ d = v) (k : W P ds n c Q (upd σ d v) w) : W P ds n c Q σ w := by
  rw [upd_id h]; exact k
theorem WO_call {ops : Array Oper} {rest : List Oper} {f : FuncId} {ar : Array Operand} {ts : Array TypeId} {ty : TypeId} {ps : String} {dst : Option Tmp} {af : Array Edge} {g : Option (Nat × Bool)} {T : Value → World → Prop}
    (hg : gOk ops n σ g = true) (he : Enters P f) (hc : Calls P f (ar.toList.map (ev n σ)).toArray w (Ret T))
    (next : ∀ v w', T v w' → WO P ds n ops rest Q (updo σ dst v) w') :
    WO P ds n ops (⟨dst, .call { callee := .value (.func f), args := ar, argTypes := ts }, ty, ps, af, g⟩ :: rest) Q σ w := by
  refine WO_enter (R := Ret T) (w' := w) (f := f) (args := (ar.toList.map (ev n σ)).toArray) hg ?_ hc ?_ ?_ ?_
  · have : ar.map (ev n σ) = (ar.toList.map (ev n σ)).toArray := by
      apply Array.ext'; simp
    simp only [execOp, resolve, ev, this]
    have := he (List.map (ev n σ) ar.toList).toArray w
    simp [Deferred.ofValue, invoke, go_sem, this]
  · rintro v w'' ⟨v', hv, hT⟩; cases hv; exact next v w'' hT
  · rintro ch w'' ⟨v', hv, hT⟩; cases hv
  · rintro w'' ⟨v', hv, hT⟩; cases hv
theorem WO_seql {ops : Array Oper} {rest : List Oper} {dst : Option Tmp} {x y : Operand} {t t' ty : TypeId} {ps : String} {af : Array Edge} {g : Option (Nat × Bool)} {l1 l2 : List UInt8}
    (hg : gOk ops n σ g = true) (hx : ev n σ x = S l1) (hy : ev n σ y = S l2)
    (next : WO P ds n ops rest Q (updo σ dst ((.bool (decide (l1 = l2))))) w) : WO P ds n ops (⟨dst, .binOp .eql t x y t', ty, ps, af, g⟩ :: rest) Q σ w :=
  WO_val hg (R_seql hx hy) next
theorem WO_sneq {ops : Array Oper} {rest : List Oper} {dst : Option Tmp} {x y : Operand} {t t' ty : TypeId} {ps : String} {af : Array Edge} {g : Option (Nat × Bool)} {l1 l2 : List UInt8}
    (hg : gOk ops n σ g = true) (hx : ev n σ x = S l1) (hy : ev n σ y = S l2)
    (next : WO P ds n ops rest Q (updo σ dst ((.bool (!decide (l1 = l2))))) w) : WO P ds n ops (⟨dst, .binOp .neq t x y t', ty, ps, af, g⟩ :: rest) Q σ w :=
  WO_val hg (R_sneq hx hy) next
theorem WO_callp {ops : Array Oper} {rest : List Oper} {ch : List PanicEntry} {U : World → Prop} {f : FuncId} {ar : Array Operand} {ts : Array TypeId} {ty : TypeId} {ps : String} {dst : Option Tmp} {af : Array Edge} {g : Option (Nat × Bool)} {T : Value → World → Prop}
    (hg : gOk ops n σ g = true) (he : Enters P f) (hc : Calls P f (ar.toList.map (ev n σ)).toArray w (Pan ch T U))
    (pan : ∀ w', U w' → Q (.panic ch) σ w')
    (next : ∀ v w', T v w' → WO P ds n ops rest Q (updo σ dst v) w') :
    WO P ds n ops (⟨dst, .call { callee := .value (.func f), args := ar, argTypes := ts }, ty, ps, af, g⟩ :: rest) Q σ w := by
  refine WO_enter (R := Pan ch T U) (w' := w) (f := f) (args := (ar.toList.map (ev n σ)).toArray) hg ?_ hc ?_ ?_ ?_
  · have : ar.map (ev n σ) = (ar.toList.map (ev n σ)).toArray := by
      apply Array.ext'; simp
    simp only [execOp, resolve, ev, this]
    have := he (List.map (ev n σ) ar.toList).toArray w
    simp [Deferred.ofValue, invoke, go_sem, this]
  · rintro v w'' (⟨v', hv, hT⟩ | ⟨hv, _⟩)
    · cases hv; exact next v w'' hT
    · cases hv
  · rintro ch' w'' (⟨v', hv, hT⟩ | ⟨hv, hU⟩)
    · cases hv
    · cases hv; exact pan w'' hU
  · rintro w'' (⟨v', hv, hT⟩ | ⟨hv, hU⟩) <;> cases hv
end
section
variable {P : Program} {ds : List Deferred} {n : Nat} {Q : Exit → (Nat → Value) → World → Prop} {σ : Nat → Value} {w : World}
variable {ops : Array Oper} {rest : List Oper} {dst : Option Tmp} {ty : TypeId} {ps : String} {af : Array Edge} {g : Option (Nat × Bool)}
theorem WO_box {t : TypeId} {x : Operand} {v : Value} (hg : gOk ops n σ g = true) (hx : ev n σ x = v)
    (next : ∀ w', New w w' (.cells v.cells t) → WO P ds n ops rest Q (updo σ dst (.pointer (some ⟨w.heap.size, 0, none⟩))) w') :
    WO P ds n ops (⟨dst, .box t x, ty, ps, af, g⟩ :: rest) Q σ w := by
  refine WO_val hg ?_ (next _ rfl)
  simp [execOp, Instr.box, hx, newVar, newRow, go_sem]
theorem WO_alloc {t : TypeId} {v : Value} (hg : gOk ops n σ g = true) (hz : ∀ w, (zeroValue t).run P w = .ok v w)
    (next : ∀ w', New w w' (.cells v.cells t) → WO P ds n ops rest Q (updo σ dst (.pointer (some ⟨w.heap.size, 0, none⟩))) w') :
    WO P ds n ops (⟨dst, .alloc t, ty, ps, af, g⟩ :: rest) Q σ w := by
  refine WO_val hg ?_ (next _ rfl)
  simp [execOp, Instr.alloc, hz, newVar, newRow, go_sem]
theorem WO_load {t : TypeId} {d : TypeDesc} {x : Operand} {a : Addr} {v : Value} (hg : gOk ops n σ g = true) (hx : ev n σ x = .pointer (some a)) (ht : P.underlying t = some d) (hd : plainD d = true) (hc : w.cell? a = some v)
    (next : WO P ds n ops rest Q (updo σ dst (v)) w) : WO P ds n ops (⟨dst, .load t x, ty, ps, af, g⟩ :: rest) Q σ w :=
  WO_val hg (R_load hx ht hd hc) next
theorem WO_store {t : TypeId} {x y : Operand} {b o : Nat} {c : Array Value} {e : TypeId} {v : Value} (hg : gOk ops n σ g = true) (hx : ev n σ x = .pointer (some ⟨b, o, none⟩)) (hy : ev n σ y = v)
    (hs : ∀ w, (sizeOf t).run P w = .ok 1 w) (h1 : oneC v = true) (hb : w.heap[b]? = some (.cells c e (0, 0))) (ho : o < c.size)
    (next : ∀ w', Upd w w' b (.cells (c.setIfInBounds o v) e (0, 0)) → WO P ds n ops rest Q (updo σ dst undef) w') : WO P ds n ops (⟨dst, .store t x y, ty, ps, af, g⟩ :: rest) Q σ w := by
  have hcell : w.cell? ⟨b, o, none⟩ = some c[o] := cell_of hb (by simp [ho])
  have hfr : w.frozen? ⟨b, o, none⟩ = false := by simp [World.frozen?, hb]
  have hcs : v.cells = #[v] := by cases v <;> first | rfl | simp [oneC] at h1
  refine WO_unit (w' := w.setCell ⟨b, o, none⟩ v) hg ?_ (next _ ⟨rfl, rfl, rfl, by simp [World.setCell], ?_, ?_⟩)
  · cases v <;> first | (simp [oneC] at h1; done) | simp [execOp, Instr.storeAt, Instr.sureAddr, hx, hy, storeVar, hs, Value.cells, storeCells, store, Sem.run, hcell, hfr, Addr.add, go_sem]
  · have hlt := heap_lt hb
    have := (Array.getElem?_eq_some_iff.1 hb).2
    simp [World.setCell, Array.getElem?_modify, hb]
  · intro j hj
    simp [World.setCell, Array.getElem?_modify, Ne.symm hj]
theorem WO_storerow {t e : TypeId} {x y : Operand} {b o : Nat} {c c' : Array Value} (hg : gOk ops n σ g = true) (hx : ev n σ x = .pointer (some ⟨b, o, none⟩)) (hy : ev n σ y = .agg c')
    (hs : ∀ w, (sizeOf t).run P w = .ok c'.size w) (h1 : c'.all (·.oneCell') = true) (hb : w.heap[b]? = some (.cells c e (0, 0))) (ho : o + c'.size ≤ c.size)
    (next : ∀ w', Upd w w' b (.cells (c.toList.take o ++ c'.toList ++ c.toList.drop (o + c'.size)).toArray e (0, 0)) → WO P ds n ops rest Q (updo σ dst undef) w') : WO P ds n ops (⟨dst, .store t x y, ty, ps, af, g⟩ :: rest) Q σ w := by
  have hr := run_storeCells_at P b o e c'.toList 0 c w hb (by simpa using ho) (fun v hv => by rw [Array.all_eq_true_iff_forall_mem] at h1; exact h1 v (by simpa using hv))
  refine WO_unit (w' := w.setRow b (c.toList.take (o + 0) ++ c'.toList ++ c.toList.drop (o + 0 + c'.toList.length)).toArray) hg ?_ (next _ ⟨rfl, rfl, rfl, by simp [World.setRow], ?_, ?_⟩)
  · have hr' : (storeCells ⟨b, o, none⟩ c'.toList).run P w = .ok () (w.setRow b (c.toList.take (o + 0) ++ c'.toList ++ c.toList.drop (o + 0 + c'.toList.length)).toArray) := hr
    simp [execOp, Instr.storeAt, Instr.sureAddr, hx, hy, storeVar, hs, Value.cells, hr', go_sem]
  · rw [setRow_heap w b c _ e _ hb]; simp
  · intro j hj; exact setRow_other w b j _ hj
theorem WO_loadrow {t e : TypeId} {d : TypeDesc} {x : Operand} {b o m : Nat} {c : Array Value} {fr : Nat × Nat} (hg : gOk ops n σ g = true) (hx : ev n σ x = .pointer (some ⟨b, o, none⟩)) (ht : P.underlying t = some d) (hd : plainD d = false)
    (hs : ∀ w, (sizeOf t).run P w = .ok m w) (hb : w.heap[b]? = some (.cells c e fr)) (ho : o + m ≤ c.size)
    (next : WO P ds n ops rest Q (updo σ dst ((.agg ((c.toList.drop o).take m).toArray))) w) : WO P ds n ops (⟨dst, .load t x, ty, ps, af, g⟩ :: rest) Q σ w :=
  WO_val hg (R_loadrow hx ht hd hs hb ho) next
end
theorem W_any {P : Program} {ds : List Deferred} {n : Nat} {c : Code} {Q : Exit → Act → World → Prop} {σ : Nat → Value} {w : World} (h : W P ds n c (fun e σ w => Q e (mk ds n σ) w) σ w) : c.wp P Q (mk ds n σ) w := by
  refine wp_mono h ?_
  rintro e a w ⟨σ', rfl, q⟩; exact q
theorem wp_defer {P : Program} {n : Nat} {id : Nat} {o1 : Oper} {op : Op} {ty : TypeId} {ps : String} {af : Array Edge} {y : Code} {Q : Exit → Act → World → Prop} {σ : Nat → Value} {w : World} {v : Value} {d : Deferred}
    (hg1 : o1.guard = none) (h1 : (execOp (ev n σ) o1).run P w = .ok (.value v) w) (h2 : (execOp (ev n (updo σ o1.dst v)) ⟨none, op, ty, ps, af, none⟩).run P w = .ok (.defer d) w)
    (h : y.wp P Q (mk [d] n (updo σ o1.dst v)) w) : (Code.seq (.region id [o1, ⟨none, op, ty, ps, af, none⟩].toArray false) y).wp P Q (Proofs.YtaegacblpbbndaaGreatDoor.mk n σ) w := by
  refine wp_seq (wp_region_lit ?_)
  unfold wpList
  rw [Proofs.YtaegacblpbbndaaGreatDoor.wanted_mk, hg1, show ∀ o : Array Oper, gOk o n σ none = true from fun _ => rfl, if_pos rfl]
  left
  unfold Oper.wp
  rw [Proofs.YtaegacblpbbndaaGreatDoor.mk_eval, h1, Oper.upon_value, Proofs.YtaegacblpbbndaaGreatDoor.mk_put]
  unfold wpList
  rw [Proofs.YtaegacblpbbndaaGreatDoor.wanted_mk, show ∀ (o : Array Oper) (σ : Nat → Value), gOk o n σ none = true from fun _ _ => rfl, if_pos rfl]
  left
  unfold Oper.wp
  rw [Proofs.YtaegacblpbbndaaGreatDoor.mk_eval, h2, Oper.upon_defer]
  exact h
theorem leaves_cc {P : Program} {ds : List Deferred} {n : Nat} {σ : Nat → Value} {w : World} {fn : Func} {R : Ending → World → Prop} {t u : Nat} {ty ty2 e e2 : TypeId} {d d2 : TypeDesc} {b b2 : Nat} {c : Array Value} {fr fr2 : Nat × Nat} {v1 : Value}
    (hr : fn.results = #[.cell t ty, .cell u ty2]) (h0 : sl n σ t = .pointer (some ⟨b, 0, none⟩)) (ht : P.underlying ty = some d) (hd : plainD d = false) (hs : ∀ w, (sizeOf ty).run P w = .ok c.size w) (hb : w.heap[b]? = some (.cells c e fr))
    (h1 : sl n σ u = .pointer (some ⟨b2, 0, none⟩)) (ht2 : P.underlying ty2 = some d2) (hd2 : plainD d2 = true) (hb2 : w.heap[b2]? = some (.cells #[v1] e2 fr2)) (h : R (.returned (.tuple #[.agg c, v1])) w) : Leaves P fn (mk ds n σ).tmps R [] .returning w := by
  have ha : (isAgg ty).run P w = .ok true w := by cases d <;> simp_all [isAgg, run_underlying ht, plainD]
  refine ⟨_, ?_, h⟩
  have hl := run_loadCells_list (P := P) w ⟨b, 0, none⟩ c.toList (fun j v hj => by
    have hadd : (⟨b, 0, none⟩ : Addr).add j = ⟨b, 0 + j, none⟩ := by unfold Addr.add; split <;> simp_all
    rw [hadd, Nat.zero_add]; exact cell_of hb (by simpa using hj))
  simp only [loadCells] at hl
  simp only [Array.length_toList] at hl
  have hc : w.cell? ⟨b2, 0, none⟩ = some v1 := cell_of hb2 rfl
  have e0 := mk_getD ds n σ t; have e1 := mk_getD ds n σ u
  rw [Array.getD_eq_getD_getElem?] at e0 e1
  simp only [results, hr]
  simp [e0, e1, h0, h1, asAddr, loadVar, loadCells, ha, hs, hl, run_isAgg ht2 hd2, load, Sem.run, hc, go_sem]
end D
end Go.Proofs.YtaegacblpbbndaaGreatDoor
end
section
namespace Go.Proofs.YtaegacblpbbndaaGreatDoor
open Go Go.RowKit
theorem en_14 : Enters Tryz.prog 14 := enters_of Tryz.func14 (by kernel_rfl) rfl
theorem one_any (ws : List (List UInt8)) (hl : ws.length ≤ 8388608) (hx : ∀ x ∈ ws, x.length ≤ 8388608) : ∀ (n : Nat), n ≤ ws.length + 3 → OneSaid ws n := by
 have key : ∀ (k n : Nat), n ≤ ws.length + 3 → ws.length + 3 - n ≤ k → OneSaid ws n := by
  intro k
  induction k with
  | zero => exact fun n hn hk b txt w hb hR => one_step ws hl hx n hn (fun n' h1 h2 => by omega) b txt w hb hR
  | succ k ih => exact fun n hn hk b txt w hb hR => one_step ws hl hx n hn (fun n' h1 h2 => ih n' h2 (by omega)) b txt w hb hR
 exact fun n hn => key _ n hn (Nat.le_refl _)
theorem wordsN_ne : ∀ (n : Nat) (s : List UInt8), ∀ x ∈ wordsN n s, x ≠ []
 | 0, s => by simp [wordsN]
 | n + 1, s => by
  unfold wordsN
  split
  ·simp
  ·rename_i h
   intro x hx
   rcases List.mem_cons.1 hx with rfl | hx
   ·exact h
   ·exact wordsN_ne n _ x hx
theorem nonempty_word {s : List UInt8} {m : Nat} (h : m < (wordsOf s).length) : atW (wordsOf s) m ≠ [] := by
 rw [atW_lt h]; exact wordsN_ne _ s _ (nth_mem h)
theorem check_bad {t : DepT} (h : formB t = false) : checkE t = 50 := by unfold checkE; rw [if_neg (by rw [h]; simp)]
theorem parse_bad {s : List UInt8} {t : DepT} {m : Nat} (h : readA (wordsOf s) 0 = some (t, m)) (hm : (wordsOf s).length ≤ m) (hc : checkE t ≠ 0) : parseF s = (zeroT, checkE t) := by
 unfold parseF; rw [h]; simp only
 by_cases he : m = (wordsOf s).length
 ·rw [if_pos he, if_neg hc]
 ·rw [if_neg he, check_bad (readF_over h (by omega))]
theorem parse_good {s : List UInt8} {t : DepT} {m : Nat} (h : readA (wordsOf s) 0 = some (t, m)) (hm : (wordsOf s).length ≤ m) (hc : checkE t = 0) : parseF s = (t, 0) := by
 unfold parseF; rw [h]; simp only
 by_cases he : m = (wordsOf s).length
 ·rw [if_pos he, if_pos hc]
 ·rw [check_bad (readF_over h (by omega))] at hc; cases hc
set_option maxHeartbeats 400000 in
set_option maxRecDepth 100000 in
theorem catch_pan {p q : Nat} {x0 x1 x2 x3 x4 y : Value} {w : World} (hp : w.heap[p]? = some (.cells #[x0, x1, x2, x3, x4] 24 (0, 0))) (hq : w.heap[q]? = some (.cells #[y] 27 (0, 0))) (hpq : p ≠ q) :
  CallsD Tryz.prog 27 #[.pointer (some ⟨p, 0, none⟩), .pointer (some ⟨q, 0, none⟩)] (.panicking oddCh) w fun e u' w' => e = .returned (.tuple #[]) ∧ u' = .panicking [{ v := .iface 52 (.agg #[]), recovered := true }] ∧
   w'.heap[p]? = some (.cells #[.int .i64 0, S [], .int .i64 0, S [], .slice none 0 0] 24 (0, 0)) ∧ w'.heap[q]? = some (.cells #[.int .i64 50] 27 (0, 0)) ∧ ∀ B, B ≤ p → B ≤ q → Below B w w' := by
 unfold oddCh
 have hpl := heap_lt hp
 have hql := heap_lt hq
 refine callsD_of_wpS Tryz.func27 rfl fun c₀ cs hu => ?_
 apply wpS_seq
 apply wpS_region
 simp [wpOpsS, go_sem, recoverD, hu, Tryz.ntmps27, Exit.thenS]
 refine wpS_of_wp ?_
 rw [show ({ tmps := #[Value.pointer (some ⟨p, 0, none⟩), Value.pointer (some ⟨q, 0, none⟩)] ++ ((Array.replicate 14 undef).setIfInBounds 3 (.iface 52 (.agg #[]))).setIfInBounds 0 (.iface 52 (.agg #[])), defers := [] } : Act) = mk 16 (upd (upd (argσ [.pointer (some ⟨p, 0, none⟩), .pointer (some ⟨q, 0, none⟩)]) 5 (.iface 52 (.agg #[]))) 2 (.iface 52 (.agg #[]))) from by kernel_rfl]
 refine W_any ?_
 refine W_seq ?_
 refine W_reg ?_
 refine WO_pure (v := ((.iface 52 (.agg #[])))) rfl rfl ?_
 refine WO_same (v := .tuple #[.agg #[], .bool true]) rfl (by kernel_rfl) ?_
 refine WO_pure rfl rfl ?_
 refine WO_pure (v := (.agg #[])) rfl rfl ?_
 refine WO_pure (v := (.bool true)) rfl rfl ?_
 refine WO_alloc (v := (.agg #[])) rfl (fun _ => by kernel_rfl) (fun w1 n1 => ?_)
 have e1 : w1.heap[w.heap.size]? = some (.cells #[] 52 (0, 0)) := n1.here
 have z1 := n1.size
 have p2 := e1
 refine WO_storerow (b := w.heap.size) (o := 0) (c' := #[]) rfl rfl rfl (fun _ => by kernel_rfl) (by simp [Value.oneCell']) p2 (by simp) (fun w2 u2 => ?_)
 have e2 : w2.heap[w.heap.size]? = some (.cells #[] 52 (0, 0)) := u2.here
 have z2 := u2.size
 refine WO_pure (v := (.bool true)) rfl rfl ?_
 refine WO_nil ?_
 refine W_seq ?_
 refine W_reg ?_
 refine WO_pure (v := (.bool true)) rfl rfl ?_
 refine WO_nil ?_
 refine W_true rfl ?_
 refine W_reg ?_
 refine WO_same (v := (.agg #[(.int .i64 0), (S []), (.int .i64 0), (S []), (.slice none 0 0)])) rfl (by kernel_rfl) ?_
 have p3 := (u2.keep (n1.keep hp) (heap_ne (n1.keep hp) p2 (by decide)))
 refine WO_storerow (b := p) (o := 0) (c' := #[(.int .i64 0), (S []), (.int .i64 0), (S []), (.slice none 0 0)]) rfl rfl rfl (fun _ => by kernel_rfl) (by simp [Value.oneCell']) p3 (by simp) (fun w3 u3 => ?_)
 have e3 : w3.heap[p]? = some (.cells #[(.int .i64 0), (S []), (.int .i64 0), (S []), (.slice none 0 0)] 24 (0, 0)) := u3.here
 have z3 := u3.size
 have p4 := (u3.keep (u2.keep (n1.keep hq) (heap_ne (n1.keep hq) p2 (by decide))) (heap_ne (u2.keep (n1.keep hq) (heap_ne (n1.keep hq) p2 (by decide))) p3 (by decide)))
 refine WO_store (b := q) (o := 0) (v := (.int .i64 50)) rfl rfl rfl (fun _ => by kernel_rfl) rfl p4 (by simp) (fun w4 u4 => ?_)
 have e4 : w4.heap[q]? = some (.cells #[(.int .i64 50)] 27 (0, 0)) := u4.here
 have z4 := u4.size
 refine WO_nil ?_
 refine ⟨rfl, .panicking [{ v := .iface 52 (.agg #[]), recovered := true }], rfl, _, results_none rfl _ _ _, rfl, rfl, (u4.keep e3 (heap_ne e3 p4 (by decide))), e4, fun B hB1 hB2 => (u4.below (u3.below (u2.below (n1.below (Below.refl B w) (by omega)) (by omega)) (by omega)) (by omega))⟩
set_option maxHeartbeats 400000 in
set_option maxRecDepth 100000 in
theorem catch_idle (p q : Nat) (w : World) : CallsD Tryz.prog 27 #[.pointer (some ⟨p, 0, none⟩), .pointer (some ⟨q, 0, none⟩)] .returning w fun e u' w' => e = .returned (.tuple #[]) ∧ u' = .returning ∧ Below w.heap.size w w' := by
 refine callsD_of_wpS Tryz.func27 rfl fun c₀ cs hu => ?_
 apply wpS_seq
 apply wpS_region
 simp [wpOpsS, go_sem, recoverD, hu, Tryz.ntmps27, Exit.thenS]
 refine wpS_of_wp ?_
 rw [show ({ tmps := #[Value.pointer (some ⟨p, 0, none⟩), Value.pointer (some ⟨q, 0, none⟩)] ++ ((Array.replicate 14 undef).setIfInBounds 3 .nilIface).setIfInBounds 0 .nilIface, defers := [] } : Act) = mk 16 (upd (upd (argσ [.pointer (some ⟨p, 0, none⟩), .pointer (some ⟨q, 0, none⟩)]) 5 .nilIface) 2 .nilIface) from by kernel_rfl]
 refine W_any ?_
 refine W_seq ?_
 refine W_reg ?_
 refine WO_pure (v := (.nilIface)) rfl rfl ?_
 refine WO_same (v := .tuple #[.agg #[], .bool false]) rfl (by kernel_rfl) ?_
 refine WO_pure rfl rfl ?_
 refine WO_pure (v := (.agg #[])) rfl rfl ?_
 refine WO_pure (v := (.bool false)) rfl rfl ?_
 refine WO_alloc (v := (.agg #[])) rfl (fun _ => by kernel_rfl) (fun w1 n1 => ?_)
 have e1 : w1.heap[w.heap.size]? = some (.cells #[] 52 (0, 0)) := n1.here
 have z1 := n1.size
 have p2 := e1
 refine WO_storerow (b := w.heap.size) (o := 0) (c' := #[]) rfl rfl rfl (fun _ => by kernel_rfl) (by simp [Value.oneCell']) p2 (by simp) (fun w2 u2 => ?_)
 have e2 : w2.heap[w.heap.size]? = some (.cells #[] 52 (0, 0)) := u2.here
 have z2 := u2.size
 refine WO_pure (v := (.bool false)) rfl rfl ?_
 refine WO_nil ?_
 refine W_seq ?_
 refine W_reg ?_
 refine WO_pure (v := (.bool false)) rfl rfl ?_
 refine WO_nil ?_
 refine W_false rfl ?_
 refine W_seq ?_
 refine W_reg ?_
 refine WO_pure (v := (.nilIface)) rfl rfl ?_
 refine WO_same (v := .bool false) rfl (by kernel_rfl) ?_
 refine WO_nil ?_
 refine W_false rfl ?_
 refine W_skip ?_
 refine ⟨rfl, .returning, by cases c₀; simp_all, _, results_none rfl _ _ _, rfl, rfl, (u2.below (n1.below (Below.refl w.heap.size w) (Below.refl w.heap.size w).size) (by omega))⟩
set_option maxHeartbeats 2000000 in
set_option maxRecDepth 100000 in
theorem parse_any (s : List UInt8) (w : World) (hl : s.length ≤ 1048576) : Calls Tryz.prog 14 #[S s] w (Ret fun v w' => ParseIs w' (parseF s) v ∧ Below w.heap.size w w') := by
 have hwl := wordsOf_len s
 refine calls_of_wp_defers Tryz.func14 rfl ?_
 rw [show ({ tmps := #[S s] ++ Array.replicate (Tryz.f14.ntmps - #[S s].size) undef, defers := [] } : Act) = mk 28 (argσ [S s]) from by rw [Tryz.ntmps14]; kernel_rfl]
 refine W_top ?_
 refine W_reg ?_
 refine WO_alloc (v := (.agg #[(.int .i64 0), (S []), (.int .i64 0), (S []), (.slice none 0 0)])) rfl (fun _ => by kernel_rfl) (fun w1 n1 => ?_)
 have z1 := n1.size
 refine WO_alloc (v := .int .i64 0) rfl (fun _ => by kernel_rfl) (fun w2 n2 => ?_)
 have z2 := n2.size
 have e1 : w1.heap[w.heap.size]? = some (.cells #[(.int .i64 0), (S []), (.int .i64 0), (S []), (.slice none 0 0)] 24 (0, 0)) := n1.here
 have e2 : w2.heap[w1.heap.size]? = some (.cells #[.int .i64 0] 27 (0, 0)) := n2.here
 refine WO_nil ?_
 refine D.wp_defer (v := .func (.func 27) #[] #[(.pointer (some ⟨w.heap.size, 0, none⟩)), (.pointer (some ⟨w1.heap.size, 0, none⟩))]) (d := { target := .fn (.func 27) #[(.pointer (some ⟨w.heap.size, 0, none⟩)), (.pointer (some ⟨w1.heap.size, 0, none⟩))], args := #[] }) rfl (by kernel_rfl) (by kernel_rfl) ?_
 refine D.W_any ?_
 refine D.W_seq ?_
 refine D.W_reg ?_
 refine D.WO_pure (v := (S s)) rfl rfl ?_
 refine D.WO_same (v := (.agg #[(S s), (S [])])) rfl (by kernel_rfl) ?_
 refine D.WO_box (v := (.agg #[(S s), (S [])])) rfl rfl (fun w3 n3 => ?_)
 have e3 : w3.heap[w2.heap.size]? = some (.cells #[(S s), (S [])] 56 (0, 0)) := n3.here
 have z3 := n3.size
 refine D.WO_pure (v := (.pointer (some ⟨w2.heap.size, 0, none⟩))) rfl rfl ?_
 refine D.WO_nil ?_
 refine D.W_seq ?_
 refine D.W_reg ?_
 refine D.WO_pure (v := (.pointer (some ⟨w2.heap.size, 0, none⟩))) rfl rfl ?_
 refine D.WO_call rfl (by exact en_28) (next_any w2.heap.size s [] _ e3 (by omega)) ?_
 rintro _ wx ⟨hcx, gx⟩
 have z_x := gx.size
 have hst := Rep.start s (by omega)
 rw [hst.1] at hcx
 have z_wx := gx.size
 refine D.WO_nil ?_
 refine D.W_seq ?_
 refine D.W_reg ?_
 refine D.WO_pure (v := (.pointer (some ⟨w2.heap.size, 0, none⟩))) rfl rfl ?_
 refine D.WO_callp rfl (by exact en_29) (one_any (wordsOf s) (by omega) (fun x hx => by have := wordsOf_each s x hx; omega) 0 (by omega) w2.heap.size (nextW s).2 _ hcx hst.2) (by rintro wp hp; refine leaves_cons (f := 27) (args := #[(.pointer (some ⟨w.heap.size, 0, none⟩)), (.pointer (some ⟨w1.heap.size, 0, none⟩))]) (by simp) (by simp [go_sem]) ?_; refine (catch_pan (grown_keep hp.2 (grown_keep gx (n3.keep (n2.keep e1)) (by first | assumption | omega | (intro e; have e2 := Option.some.inj e; omega) | (simp; omega))) (by intro e; have e2 := Option.some.inj e; omega)) (grown_keep hp.2 (grown_keep gx (n3.keep e2) (by first | assumption | omega | (intro e; have e2 := Option.some.inj e; omega) | (simp; omega))) (by intro e; have e2 := Option.some.inj e; omega)) (by omega)).mono ?_; rintro e u' w'' ⟨rfl, rfl, hh1, hh2, hh3⟩; exact D.leaves_cc rfl rfl Tryz.underlying24 rfl (fun _ => by kernel_rfl) hh1 rfl Tryz.underlying27 rfl hh2 ⟨_, rfl, parseIs_zero (by unfold parseF; rw [hp.1]), (Below.trans (grown_below hp.2 (grown_below gx (n3.below (n2.below (n1.below (Below.refl w.heap.size w) (Below.refl w.heap.size w).size) (n1.below (Below.refl w.heap.size w) (Below.refl w.heap.size w).size).size) (n2.below (n1.below (Below.refl w.heap.size w) (Below.refl w.heap.size w).size) (n1.below (Below.refl w.heap.size w) (Below.refl w.heap.size w).size).size).size) (by intro k hk; cases hk; omega)) (by intro k hk; cases hk; omega)) (hh3 _ (by omega) (by omega)))⟩) ?_
 rintro _ woz ⟨kz, opz, nmz, evz, asz, mz, txz, svz, cssz, hrz, rfl, rxz, axz, htz, hRz, goz⟩
 have z_z := goz.size
 have hmz := readA_le hrz
 have hqz := read_size hrz hl
 have z_woz := goz.size
 refine D.WO_alloc (v := (.agg #[(.int .i64 0), (S []), (.int .i64 0), (S []), (.slice none 0 0)])) rfl (fun _ => by kernel_rfl) (fun w4 n4 => ?_)
 have e4 : w4.heap[woz.heap.size]? = some (.cells #[(.int .i64 0), (S []), (.int .i64 0), (S []), (.slice none 0 0)] 24 (0, 0)) := n4.here
 have z4 := n4.size
 have p5 := e4
 refine D.WO_storerow (b := woz.heap.size) (o := 0) (c' := #[(.int .i64 kz), (S nmz), (.int .i64 opz), (S evz), svz]) rfl rfl rfl (fun _ => by kernel_rfl) (by rw [Array.all_eq_true_iff_forall_mem]; intro v hv; simp only [List.mem_toArray, List.mem_cons, List.not_mem_nil, or_false] at hv; rcases hv with hv | hv | hv | hv | hv <;> (rw [hv]; first | rfl | exact oneCell_is (rxz.1.ext n4.ext))) p5 (by simp) (fun w5 u5 => ?_)
 have e5 : w5.heap[woz.heap.size]? = some (.cells #[(.int .i64 kz), (S nmz), (.int .i64 opz), (S evz), svz] 24 (0, 0)) := u5.here
 have z5 := u5.size
 refine D.WO_nil ?_
 refine D.W_seq ?_
 refine D.W_reg ?_
 refine D.WO_pure (v := (.pointer (some ⟨w2.heap.size, 0, none⟩))) rfl rfl ?_
 refine D.WO_pure (v := (.pointer (some ⟨w2.heap.size, 0, none⟩))) rfl rfl ?_
 refine D.WO_same (v := (.pointer (some ⟨w2.heap.size, 1, none⟩))) rfl (by kernel_rfl) ?_
 refine D.WO_load (a := ⟨w2.heap.size, 1, none⟩) (v := (S ((atW (wordsOf s) mz)))) rfl rfl Tryz.underlying9 rfl (cell_of (u5.keep (n4.keep htz) (heap_ne (n4.keep htz) p5 (by decide))) rfl) ?_
 refine D.WO_seql (l1 := (atW (wordsOf s) mz)) (l2 := []) rfl rfl rfl ?_
 refine D.WO_callp rfl (by exact en_30) (need_any (decide ((atW (wordsOf s) mz) = [])) _) (by rintro wp ⟨w_ok, rfl⟩; refine leaves_cons (f := 27) (args := #[(.pointer (some ⟨w.heap.size, 0, none⟩)), (.pointer (some ⟨w1.heap.size, 0, none⟩))]) (by simp) (by simp [go_sem]) ?_; refine (catch_pan (u5.keep (n4.keep (grown_keep goz (grown_keep gx (n3.keep (n2.keep e1)) (by first | assumption | omega | (intro e; have e2 := Option.some.inj e; omega) | (simp; omega))) (by first | assumption | omega | (intro e; have e2 := Option.some.inj e; omega) | (simp; omega)))) (by first | assumption | omega | (simp; omega))) (u5.keep (n4.keep (grown_keep goz (grown_keep gx (n3.keep e2) (by first | assumption | omega | (intro e; have e2 := Option.some.inj e; omega) | (simp; omega))) (by first | assumption | omega | (intro e; have e2 := Option.some.inj e; omega) | (simp; omega)))) (heap_ne (n4.keep (grown_keep goz (grown_keep gx (n3.keep e2) (by first | assumption | omega | (intro e; have e2 := Option.some.inj e; omega) | (simp; omega))) (by first | assumption | omega | (intro e; have e2 := Option.some.inj e; omega) | (simp; omega)))) p5 (by decide))) (by omega)).mono ?_; rintro e u' w'' ⟨rfl, rfl, hh1, hh2, hh3⟩; exact D.leaves_cc rfl rfl Tryz.underlying24 rfl (fun _ => by kernel_rfl) hh1 rfl Tryz.underlying27 rfl hh2 ⟨_, rfl, parseIs_zero (by unfold parseF; rw [hrz]; simp only; rw [if_neg (fun e => by rw [atW_ge (by omega)] at w_ok; simp at w_ok)]), (Below.trans (u5.below (n4.below (grown_below goz (grown_below gx (n3.below (n2.below (n1.below (Below.refl w.heap.size w) (Below.refl w.heap.size w).size) (n1.below (Below.refl w.heap.size w) (Below.refl w.heap.size w).size).size) (n2.below (n1.below (Below.refl w.heap.size w) (Below.refl w.heap.size w).size) (n1.below (Below.refl w.heap.size w) (Below.refl w.heap.size w).size).size).size) (by intro k hk; cases hk; omega)) (by intro k hk; cases hk; omega)) (grown_below goz (grown_below gx (n3.below (n2.below (n1.below (Below.refl w.heap.size w) (Below.refl w.heap.size w).size) (n1.below (Below.refl w.heap.size w) (Below.refl w.heap.size w).size).size) (n2.below (n1.below (Below.refl w.heap.size w) (Below.refl w.heap.size w).size) (n1.below (Below.refl w.heap.size w) (Below.refl w.heap.size w).size).size).size) (by intro k hk; cases hk; omega)) (by intro k hk; cases hk; omega)).size) (by omega)) (hh3 _ (by omega) (by omega)))⟩) ?_
 rintro _ _ ⟨w_ok, rfl, rfl⟩
 have hge : (wordsOf s).length ≤ mz := Decidable.byContradiction fun h => nonempty_word (s := s) (m := mz) (by omega) (by simpa using w_ok)
 refine D.WO_nil ?_
 refine D.W_seq ?_
 refine D.W_seq ?_
 refine D.W_reg ?_
 refine D.WO_loadrow (b := woz.heap.size) (o := 0) (m := 5) (c := #[(.int .i64 kz), (S nmz), (.int .i64 opz), (S evz), svz]) rfl rfl Tryz.underlying24 rfl (fun _ => by kernel_rfl) e5 (by simp) ?_
 refine D.WO_eq 21 (v' := (.agg #[(.int .i64 kz), (S nmz), (.int .i64 opz), (S evz), svz])) rfl rfl ?_
 refine D.WO_call rfl (by exact en_12) (check_any (DepT.mk kz nmz opz evz asz) _ (DepC.ext (u5.below (n4.below (Below.refl woz.heap.size woz) (Below.refl woz.heap.size woz).size) (by omega)) _ _ (DepX.toC _ _ (DepX.intro (k := kz) (op := opz) (nm := nmz) (ev := evz) rxz axz))) hqz) ?_
 rintro _ wk ⟨rfl, bk⟩
 have z_k := bk.size
 have z_wk := bk.size
 refine D.WO_pure (v := (.int .i64 (checkE (DepT.mk kz nmz opz evz asz)))) rfl rfl ?_
 refine D.WO_nil ?_
 refine D.W_seq ?_
 refine D.W_reg ?_
 refine D.WO_pure (v := (.int .i64 (checkE (DepT.mk kz nmz opz evz asz)))) rfl rfl ?_
 refine D.WO_pure (v := (.bool (!decide ((checkE (DepT.mk kz nmz opz evz asz)) = 0)))) rfl rfl ?_
 refine D.WO_nil ?_
 refine D.W_cond (t := !decide ((checkE (DepT.mk kz nmz opz evz asz)) = 0)) rfl (fun c1 => ?_) (fun c1 => ?_)
 ·refine D.W_seq ?_
  refine D.W_reg ?_
  refine D.WO_same (v := (.agg #[(.int .i64 0), (S []), (.int .i64 0), (S []), (.slice none 0 0)])) rfl (by kernel_rfl) ?_
  refine D.WO_pure (v := (.int .i64 (checkE (DepT.mk kz nmz opz evz asz)))) rfl rfl ?_
  have p6 := (below_keep bk (u5.keep (n4.keep (grown_keep goz (grown_keep gx (n3.keep (n2.keep e1)) (by first | assumption | omega | (intro e; have e2 := Option.some.inj e; omega) | (simp; omega))) (by first | assumption | omega | (intro e; have e2 := Option.some.inj e; omega) | (simp; omega)))) (by first | assumption | omega | (simp; omega))))
  refine D.WO_storerow (b := w.heap.size) (o := 0) (c' := #[(.int .i64 0), (S []), (.int .i64 0), (S []), (.slice none 0 0)]) rfl rfl rfl (fun _ => by kernel_rfl) (by simp [Value.oneCell']) p6 (by simp) (fun w6 u6 => ?_)
  have e6 : w6.heap[w.heap.size]? = some (.cells #[(.int .i64 0), (S []), (.int .i64 0), (S []), (.slice none 0 0)] 24 (0, 0)) := u6.here
  have z6 := u6.size
  have p7 := (u6.keep (below_keep bk (u5.keep (n4.keep (grown_keep goz (grown_keep gx (n3.keep e2) (by first | assumption | omega | (intro e; have e2 := Option.some.inj e; omega) | (simp; omega))) (by first | assumption | omega | (intro e; have e2 := Option.some.inj e; omega) | (simp; omega)))) (heap_ne (n4.keep (grown_keep goz (grown_keep gx (n3.keep e2) (by first | assumption | omega | (intro e; have e2 := Option.some.inj e; omega) | (simp; omega))) (by first | assumption | omega | (intro e; have e2 := Option.some.inj e; omega) | (simp; omega)))) p5 (by decide)))) (heap_ne (below_keep bk (u5.keep (n4.keep (grown_keep goz (grown_keep gx (n3.keep e2) (by first | assumption | omega | (intro e; have e2 := Option.some.inj e; omega) | (simp; omega))) (by first | assumption | omega | (intro e; have e2 := Option.some.inj e; omega) | (simp; omega)))) (heap_ne (n4.keep (grown_keep goz (grown_keep gx (n3.keep e2) (by first | assumption | omega | (intro e; have e2 := Option.some.inj e; omega) | (simp; omega))) (by first | assumption | omega | (intro e; have e2 := Option.some.inj e; omega) | (simp; omega)))) p5 (by decide)))) p6 (by decide)))
  refine D.WO_store (b := w1.heap.size) (o := 0) (v := (.int .i64 (checkE (DepT.mk kz nmz opz evz asz)))) rfl rfl rfl (fun _ => by kernel_rfl) rfl p7 (by simp) (fun w7 u7 => ?_)
  have e7 : w7.heap[w1.heap.size]? = some (.cells #[(.int .i64 (checkE (DepT.mk kz nmz opz evz asz)))] 27 (0, 0)) := u7.here
  have z7 := u7.size
  refine D.WO_nil ?_
  refine D.W_ret ?_
  refine leaves_cons (f := 27) (args := #[(.pointer (some ⟨w.heap.size, 0, none⟩)), (.pointer (some ⟨w1.heap.size, 0, none⟩))]) (by simp) (by simp [go_sem]) ?_
  refine (catch_idle _ _ _).mono ?_
  rintro e u' w'' ⟨rfl, rfl, hh⟩
  exact D.leaves_cc rfl rfl Tryz.underlying24 rfl (fun _ => by kernel_rfl) (below_keep hh (u7.keep e6 (heap_ne e6 p7 (by decide)))) rfl Tryz.underlying27 rfl (below_keep hh e7) ⟨_, rfl, parseIs_zero (parse_bad hrz hge (by simpa using c1)), below_ext (u7.below (u6.below (below_ext (u5.below (n4.below (grown_below goz (grown_below gx (n3.below (n2.below (n1.below (Below.refl w.heap.size w) (Below.refl w.heap.size w).size) (n1.below (Below.refl w.heap.size w) (Below.refl w.heap.size w).size).size) (n2.below (n1.below (Below.refl w.heap.size w) (Below.refl w.heap.size w).size) (n1.below (Below.refl w.heap.size w) (Below.refl w.heap.size w).size).size).size) (by intro k hk; cases hk; omega)) (by intro k hk; cases hk; omega)) (grown_below goz (grown_below gx (n3.below (n2.below (n1.below (Below.refl w.heap.size w) (Below.refl w.heap.size w).size) (n1.below (Below.refl w.heap.size w) (Below.refl w.heap.size w).size).size) (n2.below (n1.below (Below.refl w.heap.size w) (Below.refl w.heap.size w).size) (n1.below (Below.refl w.heap.size w) (Below.refl w.heap.size w).size).size).size) (by intro k hk; cases hk; omega)) (by intro k hk; cases hk; omega)).size) (by omega)) bk) (by omega)) (by omega)) hh⟩
 ·refine D.W_skip ?_
  refine D.W_seq ?_
  refine D.W_reg ?_
  refine D.WO_loadrow (b := woz.heap.size) (o := 0) (m := 5) (c := #[(.int .i64 kz), (S nmz), (.int .i64 opz), (S evz), svz]) rfl rfl Tryz.underlying24 rfl (fun _ => by kernel_rfl) (below_keep bk e5) (by simp) ?_
  refine D.WO_eq 27 (v' := (.agg #[(.int .i64 kz), (S nmz), (.int .i64 opz), (S evz), svz])) rfl rfl ?_
  have p8 := (below_keep bk (u5.keep (n4.keep (grown_keep goz (grown_keep gx (n3.keep (n2.keep e1)) (by first | assumption | omega | (intro e; have e2 := Option.some.inj e; omega) | (simp; omega))) (by first | assumption | omega | (intro e; have e2 := Option.some.inj e; omega) | (simp; omega)))) (by first | assumption | omega | (simp; omega))))
  refine D.WO_storerow (b := w.heap.size) (o := 0) (c' := #[(.int .i64 kz), (S nmz), (.int .i64 opz), (S evz), svz]) rfl rfl rfl (fun _ => by kernel_rfl) (by rw [Array.all_eq_true_iff_forall_mem]; intro v hv; simp only [List.mem_toArray, List.mem_cons, List.not_mem_nil, or_false] at hv; rcases hv with hv | hv | hv | hv | hv <;> (rw [hv]; first | rfl | exact oneCell_is (rxz.1.ext (below_ext (u5.below (n4.below (Below.refl woz.heap.size woz) (Below.refl woz.heap.size woz).size) (by omega)) bk)))) p8 (by simp) (fun w8 u8 => ?_)
  have e8 : w8.heap[w.heap.size]? = some (.cells #[(.int .i64 kz), (S nmz), (.int .i64 opz), (S evz), svz] 24 (0, 0)) := u8.here
  have z8 := u8.size
  have p9 := (u8.keep (below_keep bk (u5.keep (n4.keep (grown_keep goz (grown_keep gx (n3.keep e2) (by first | assumption | omega | (intro e; have e2 := Option.some.inj e; omega) | (simp; omega))) (by first | assumption | omega | (intro e; have e2 := Option.some.inj e; omega) | (simp; omega)))) (heap_ne (n4.keep (grown_keep goz (grown_keep gx (n3.keep e2) (by first | assumption | omega | (intro e; have e2 := Option.some.inj e; omega) | (simp; omega))) (by first | assumption | omega | (intro e; have e2 := Option.some.inj e; omega) | (simp; omega)))) p5 (by decide)))) (heap_ne (below_keep bk (u5.keep (n4.keep (grown_keep goz (grown_keep gx (n3.keep e2) (by first | assumption | omega | (intro e; have e2 := Option.some.inj e; omega) | (simp; omega))) (by first | assumption | omega | (intro e; have e2 := Option.some.inj e; omega) | (simp; omega)))) (heap_ne (n4.keep (grown_keep goz (grown_keep gx (n3.keep e2) (by first | assumption | omega | (intro e; have e2 := Option.some.inj e; omega) | (simp; omega))) (by first | assumption | omega | (intro e; have e2 := Option.some.inj e; omega) | (simp; omega)))) p5 (by decide)))) p8 (by decide)))
  refine D.WO_store (b := w1.heap.size) (o := 0) (v := (.int .i64 0)) rfl rfl rfl (fun _ => by kernel_rfl) rfl p9 (by simp) (fun w9 u9 => ?_)
  have e9 : w9.heap[w1.heap.size]? = some (.cells #[(.int .i64 0)] 27 (0, 0)) := u9.here
  have z9 := u9.size
  refine D.WO_nil ?_
  refine D.W_ret ?_
  refine leaves_cons (f := 27) (args := #[(.pointer (some ⟨w.heap.size, 0, none⟩)), (.pointer (some ⟨w1.heap.size, 0, none⟩))]) (by simp) (by simp [go_sem]) ?_
  refine (catch_idle _ _ _).mono ?_
  rintro e u' w'' ⟨rfl, rfl, hh⟩
  have hpf : parseF s = (DepT.mk kz nmz opz evz asz, 0) := parse_good hrz hge (by simpa using c1)
  exact D.leaves_cc rfl rfl Tryz.underlying24 rfl (fun _ => by kernel_rfl) (below_keep hh (u9.keep e8 (heap_ne e8 p9 (by decide)))) rfl Tryz.underlying27 rfl (below_keep hh e9) ⟨_, rfl, (by rw [hpf]; exact ⟨_, rfl, DepC.ext hh _ _ (DepX.toC _ _ (DepX.go (q := fun _ => True) (fun b hb hp => by change _ ≤ b at hp; exact ⟨trivial, ((u9.block b (by first | assumption | omega | (intro e; have e2 := Option.some.inj e; omega) | (intro e; simp_all; done) | (intro e; simp_all; omega))).trans ((u8.block b (by first | assumption | omega | (intro e; have e2 := Option.some.inj e; omega) | (intro e; simp_all; done) | (intro e; simp_all; omega))).trans ((bk.block b (by omega)).trans ((u5.block b (by first | assumption | omega | (intro e; have e2 := Option.some.inj e; omega) | (intro e; simp_all; done) | (intro e; simp_all; omega))).trans (n4.ext.block b (by omega))))))⟩) (by omega) _ _ (DepX.intro (k := kz) (op := opz) (nm := nmz) (ev := evz) rxz axz)))⟩), below_ext (u9.below (u8.below (below_ext (u5.below (n4.below (grown_below goz (grown_below gx (n3.below (n2.below (n1.below (Below.refl w.heap.size w) (Below.refl w.heap.size w).size) (n1.below (Below.refl w.heap.size w) (Below.refl w.heap.size w).size).size) (n2.below (n1.below (Below.refl w.heap.size w) (Below.refl w.heap.size w).size) (n1.below (Below.refl w.heap.size w) (Below.refl w.heap.size w).size).size).size) (by intro k hk; cases hk; omega)) (by intro k hk; cases hk; omega)) (grown_below goz (grown_below gx (n3.below (n2.below (n1.below (Below.refl w.heap.size w) (Below.refl w.heap.size w).size) (n1.below (Below.refl w.heap.size w) (Below.refl w.heap.size w).size).size) (n2.below (n1.below (Below.refl w.heap.size w) (Below.refl w.heap.size w).size) (n1.below (Below.refl w.heap.size w) (Below.refl w.heap.size w).size).size).size) (by intro k hk; cases hk; omega)) (by intro k hk; cases hk; omega)).size) (by omega)) bk) (by omega)) (by omega)) hh⟩
end Go.Proofs.YtaegacblpbbndaaGreatDoor
end
section
namespace Go.Proofs.YtaegacblpbbndaaGreatDoor
open Go Go.RowKit
theorem parseIs_mk {w : World} {k op er : Int} {nm ev : List UInt8} {args : List DepT} {v : Value} (h : ParseIs w (.mk k nm op ev args, er) v) : ∃ (sv : Value) (css : List (List Value)), v = .tuple #[.agg #[.int .i64 k, S nm, .int .i64 op, S ev, sv], .int .i64 er] ∧ RowIs w sv args.length 5 css.flatten ∧ ArgsC w args css := by
 obtain ⟨cs, rfl, h⟩ := h
 unfold DepC at h
 obtain ⟨sv, css, rfl, h1, h2⟩ := h
 exact ⟨sv, css, rfl, h1, h2⟩
theorem depC_mk {w : World} {k op : Int} {nm ev : List UInt8} {args : List DepT} {sv : Value} {css : List (List Value)} (h1 : RowIs w sv args.length 5 css.flatten) (h2 : ArgsC w args css) : DepC w (.mk k nm op ev args) [.int .i64 k, S nm, .int .i64 op, S ev, sv] := by
 unfold DepC
 exact ⟨sv, css, rfl, h1, h2⟩
end Go.Proofs.YtaegacblpbbndaaGreatDoor
end
section
namespace Go.Proofs.YtaegacblpbbndaaGreatDoor
open Go Go.RowKit
def Bld (w : World) (b : Nat) (l : List UInt8) : Prop :=
  ∃ p v, (p = .pointer none ∨ p = .pointer (some ⟨b, 0, none⟩)) ∧ w.heap[b]? = some (.cells #[p, v] 41 (0, 0)) ∧ w.ownsRow b 5 1 v l.length (Lib.byteCells l)
def Kept (b : Nat) (w w' : World) : Prop := Below b w w' ∧ Lib.OthersKept 5 (some b) w w'
section
variable {w w' w0 : World} {b k : Nat} {l : List UInt8} {o : Obj}
theorem Kept.refl (b : Nat) (w : World) : Kept b w w := ⟨Below.refl _ _, Lib.OthersKept.refl _ _ _⟩
theorem Kept.trans (h : Kept b w0 w) (k : Kept b w w') : Kept b w0 w' := ⟨h.1.trans k.1, h.2.trans k.2⟩
theorem Kept.size (h : Kept b w w') : w.heap.size ≤ w'.heap.size := h.1.size
theorem kept_ext (h : Kept b w0 w) (e : Below w.heap.size w w') (hb : b ≤ w.heap.size) : Kept b w0 w' :=
  ⟨h.1.trans (e.mono hb), fun i o hi hne ho => by
    have h1 := h.2 i o hi hne ho
    rw [e.block i (heap_lt h1)]; exact h1⟩
theorem kept_grown (h : Kept b w0 w) (g : w.grownBy w' (some b)) (hb : b ≤ w.heap.size) : Kept b w0 w' :=
  ⟨h.1.grown g hb (fun k hk => by cases hk; exact Nat.le_refl _), fun i o hi hne ho => by
    have h1 := h.2 i o hi hne ho
    rw [g.block i (heap_lt h1) hne]; exact h1⟩
theorem kept_own {v : Value} {m : Nat} {xs : List Value} (h : Kept b w0 w) (ow : w.ownsRow b 5 1 v m xs) (g : w.grownBy w' v.ownBlock) (hb : b ≤ w.heap.size) : Kept b w0 w' :=
  ⟨h.1.grown g hb (fun k hk => (ow.lt k hk).1), h.2.grown g (fun i hi => by
    rcases ow.2 with ⟨rfl, _⟩ | ⟨g', cap, cur, rfl, _, hg, _⟩
    · simp [Value.ownBlock] at hi
    · simp only [Value.ownBlock, Option.some.injEq] at hi
      subst hi; exact ⟨_, _, hg⟩)⟩
theorem kept_updb (h : Kept b w0 w) (u : Upd w w' b o) : Kept b w0 w' :=
  ⟨⟨u.os.trans h.1.os, u.tape.trans h.1.tape, u.output.trans h.1.output, by rw [u.size]; exact h.1.size, fun k hk => (u.block k (by omega)).trans (h.1.block k hk)⟩, fun i o hi hne ho => by
    have h1 := h.2 i o hi hne ho
    rw [u.block i (fun e => hne (by rw [e]))]; exact h1⟩
theorem kept_updo (h : Kept b w0 w) (u : Upd w w' k o) (hk : w0.heap.size ≤ k ∧ b ≤ k) : Kept b w0 w' :=
  ⟨⟨u.os.trans h.1.os, u.tape.trans h.1.tape, u.output.trans h.1.output, by rw [u.size]; exact h.1.size, fun j hj => (u.block j (by omega)).trans (h.1.block j hj)⟩, fun i o hi hne ho => by
    have h1 := h.2 i o hi hne ho
    have := heap_lt hi
    rw [u.block i (by omega)]; exact h1⟩
theorem kept_keep' {c : Array Value} {T : TypeId} {fr : Nat × Nat} (kp : Kept b w w') (h : w.heap[k]? = some (.cells c T fr)) (hT : T ≠ 5) (hne : k ≠ b) : w'.heap[k]? = some (.cells c T fr) :=
  kp.2 k _ h (fun e => hne (Option.some.inj e)) (fun c' fz e => hT (by cases e; rfl))
theorem kept_bel {B : Nat} (H : Below B w0 w) (k : Kept b w w') (hB : B ≤ b) : Below B w0 w' := H.trans (k.1.mono hB)
theorem Bld.lt (h : Bld w b l) : b < w.heap.size := by obtain ⟨p, v, _, h1, _⟩ := h; exact heap_lt h1
theorem Bld.ext (h : Bld w b l) (e : Below w.heap.size w w') : Bld w' b l := by
  obtain ⟨p, v, hp, h1, h2⟩ := h
  exact ⟨p, v, hp, below_keep e h1, below_owns e h2⟩
theorem Bld.kit (h : Bld w b l) : Lib.IsBuilderF 41 5 b b (Lib.byteCells l) w := by
  obtain ⟨p, v, hp, h1, h2⟩ := h
  have hne : v.ownBlock ≠ some b := own_ne_cell h2 h1 (by decide)
  have hl : l.length = (Lib.byteCells l).length := by rw [Lib.byteCells_length]
  rw [hl] at h2
  rcases hp with rfl | rfl
  · exact .inl (Lib.BuilderAtF.of ⟨Nat.le_refl _, v, h1, h2, hne⟩)
  · exact .inr (Lib.BuilderAtF.of ⟨Nat.le_refl _, v, h1, h2, hne⟩)
theorem Bld.fresh (h : w.heap[b]? = some (.cells #[.pointer none, .slice none 0 0] 41 (0, 0))) : Bld w b [] :=
  ⟨_, _, .inl rfl, h, ⟨by simp [Lib.byteCells], .inl ⟨rfl, rfl⟩⟩⟩
end
section
variable {P : Program} {n : Nat} {Q : Exit → (Nat → Value) → World → Prop} {σ : Nat → Value} {w : World}
variable {ops : Array Oper} {rest : List Oper} {dst : Option Tmp} {ty : TypeId} {ps : String} {af : Array Edge} {g : Option (Nat × Bool)}
theorem WO_appendstr {t u e : TypeId} {x y : Operand} {v : Value} {base m : Nat} {xs : List Value} {l : List UInt8}
    (hg : gOk ops n σ g = true) (hx : ev n σ x = v) (hy : ev n σ y = S l) (ht : P.underlying t = some (.slice e)) (hu : P.underlying u = some .string)
    (hi : (P.info? e).map (fun i => (i.zero, i.size, i.bytes)) = some (some (.int .u8 0), 1, 1)) (hown : w.ownsRow base e 1 v m xs)
    (hb : m + l.length ≤ 140737488355328) (hbase : base ≤ w.heap.size)
    (next : ∀ v' w', w'.ownsRow base e 1 v' (m + l.length) (xs ++ Lib.byteCells l) → w.grownBy w' v.ownBlock → WO P n ops rest Q (updo σ dst v') w') :
    WO P n ops (⟨dst, .call { callee := .builtin .append, args := #[x, y], argTypes := #[t, u] }, ty, ps, af, g⟩ :: rest) Q σ w := by
  obtain ⟨i, hi, h'⟩ := Option.map_eq_some_iff.1 hi
  simp only [Prod.mk.injEq] at h'
  obtain ⟨hz, hsize, hby⟩ := h'
  have hs : (⟨l.toArray⟩ : ByteArray).size = l.length := by simp [ByteArray.size]
  obtain ⟨v', w', hr, h2, h3, _⟩ := Lib.run_append_own_string (P := P) w base t u ty e i ht hu hi hz hsize hby v m xs hown ⟨l.toArray⟩ (by unfold maxLen; omega) (by omega) hbase
  rw [hs, Lib.strCells_toArray] at h2
  refine WO_val hg ?_ (next v' w' h2 h3)
  simp only [execOp, resolve, invoke, builtin, Sem.run_bind, Sem.run_pure, Result.andThen_ok, List.map_toArray, List.map_cons, List.map_nil, hx, hy, S, hr]
theorem WO_pnesame {t u te : TypeId} {x y : Operand} {j : TypeInfo} {a : Addr} (hg : gOk ops n σ g = true) (hx : ev n σ x = .pointer (some a)) (hy : ev n σ y = .pointer (some a))
    (hp : P.underlying t = some (.pointer te)) (hte : P.info? te = some j) (next : WO P n ops rest Q (updo σ dst (.bool false)) w) :
    WO P n ops (⟨dst, .binOp .neq t x y u, ty, ps, af, g⟩ :: rest) Q σ w := by
  refine WO_val hg ?_ next
  have h := Lib.run_neq_ptr_same (P := P) w a hp hte
  simp [execOp, hx, hy, h, go_sem]
theorem WO_tounsafe {src d t e : TypeId} {x : Operand} {a : Addr} {j : TypeInfo} {cells : Nat} (hg : gOk ops n σ g = true) (hx : ev n σ x = .pointer (some a)) (hs : P.underlying src = some (.pointer t)) (hd : P.underlying d = some .unsafePointer)
    (ht : P.info? t = some j) (hj : j.size ≠ 0) (hsh : w.shape? a.block = some (e, cells)) (hoff : a.off < cells) (next : WO P n ops rest Q (updo σ dst (.pointer (some a))) w) :
    WO P n ops (⟨dst, .convert src d x, ty, ps, af, g⟩ :: rest) Q σ w := by
  refine WO_val hg ?_ next
  have h := Lib.run_to_unsafe (P := P) w a hs hd ht hj hsh hoff
  simp [execOp, hx, h, go_sem]
theorem WO_fromunsafe {src d u e : TypeId} {x : Operand} {a : Addr} {j : TypeInfo} {cells : Nat} (hg : gOk ops n σ g = true) (hx : ev n σ x = .pointer (some a)) (hs : P.underlying src = some .unsafePointer) (hd : P.underlying d = some (.pointer u))
    (hu : P.info? u = some j) (hsh : w.shape? a.block = some (e, cells)) (hlies : liesAt P P.depth e (cells / P.cellsOf e) a.off u 1 = true) (next : WO P n ops rest Q (updo σ dst (.pointer (some a))) w) :
    WO P n ops (⟨dst, .convert src d x, ty, ps, af, g⟩ :: rest) Q σ w := by
  refine WO_val hg ?_ next
  have h := Lib.run_from_unsafe (P := P) w a hs hd hu hsh hlies
  simp [execOp, hx, h, go_sem]
theorem WO_extern1 {f : FuncId} {x : Operand} {v r : Value} {ts : Array TypeId} (hg : gOk ops n σ g = true) (hx : ev n σ x = v)
    (h : (callFunc f #[v]).run P w = .ok (.value r) w) (next : WO P n ops rest Q (updo σ dst r) w) :
    WO P n ops (⟨dst, .call { callee := .value (.func f), args := #[x], argTypes := ts }, ty, ps, af, g⟩ :: rest) Q σ w := by
  refine WO_val hg ?_ next
  have e : (#[x] : Array Operand).map (ev n σ) = #[v] := by simp [hx]
  simp only [execOp, resolve, ev, e]
  simp [Deferred.ofValue, invoke, go_sem, h]
end
def WS (P : Program) (n : Nat) (ops : Array Oper) (Q : (Nat → Value) → World → Prop) (S0 : World → Prop) (fuel : Nat) (listed : Array Bool) (σ : Nat → Value) (w : World) : Prop :=
  wpAnyH P .any ops (fun e a w => e = .normal ∧ ∃ σ, a = mk n σ ∧ Q σ w) S0 fuel listed (mk n σ) w
section
variable {P : Program} {n : Nat} {σ : Nat → Value} {w : World}
theorem W_orderS {S0 : World → Prop} {Q : Exit → (Nat → Value) → World → Prop} {id : Nat} {l : List Oper} (hm : P.follows .mixedOrders = true)
    (h : ∀ w', Drew w w' → WS P n l.toArray (Q .normal) S0 l.length (Array.replicate l.length false) σ w') : W P n (.region id l.toArray true) Q σ w := by
  unfold W
  refine wp_mono (wp_region_any hm (wpAny_of_held _ _ _ _ (h _ ⟨1, rfl⟩))) ?_
  rintro e a w ⟨rfl, σ', ha, hq⟩
  exact ⟨σ', ha, hq⟩
variable {ops : Array Oper} {Q : (Nat → Value) → World → Prop} {fuel : Nat} {listed : Array Bool} {S0 : World → Prop}
theorem WS_load (hS : S0 w) (i : Nat) {o : Oper} {v : Value} (hi : ops[i]? = some o) (hs : Region.noSelect ops = true) (hf : Region.free .any ops listed i = true) (hr : (Region.ready .any ops listed).contains i = true)
    (hg : gOk ops n σ o.guard = true) (h : ∀ w', S0 w' → (execOp (ev n σ) o).run P w' = .ok (.value v) w') (next : WS P n ops Q S0 fuel (listed.setIfInBounds i true) (updo σ o.dst v) w) : WS P n ops Q S0 (fuel + 1) listed σ w := by
  unfold WS
  refine wpAnyH_take hi hs hf hr (fun c a w h => by cases h.1) (.inl ⟨by rw [wanted_mk]; exact hg, fun w' hw' => by rw [mk_eval]; exact h w' hw'⟩) hS ?_
  rw [mk_put]; exact next
theorem WS_take (hS : S0 w) (i : Nat) {o : Oper} {v : Value} (hi : ops[i]? = some o) (hs : Region.noSelect ops = true) (hf : Region.free .any ops listed i = true) (hr : (Region.ready .any ops listed).contains i = true)
    (hg : gOk ops n σ o.guard = true) (h : ∀ w, (execOp (ev n σ) o).run P w = .ok (.value v) w) (next : WS P n ops Q S0 fuel (listed.setIfInBounds i true) (updo σ o.dst v) w) : WS P n ops Q S0 (fuel + 1) listed σ w :=
  WS_load hS i hi hs hf hr hg (fun w' _ => h w') next
theorem WS_done (hr : Region.ready .any ops listed = []) (h : Q σ w) : WS P n ops Q S0 fuel listed σ w := by
  unfold WS
  exact wpAnyH_done hr ⟨rfl, σ, rfl, h⟩ fuel
theorem WS_only (i : Nat) {o : Oper} (hr : Region.ready .any ops listed = [i]) (hi : ops[i]? = some o)
    (h : WO P n ops [o] (fun e σ' w' => e = .normal ∧ S0 w' ∧ WS P n ops Q S0 fuel (listed.setIfInBounds i true) σ' w') σ w) : WS P n ops Q S0 (fuel + 1) listed σ w := by
  unfold WS
  refine wpAnyH_all hr (by simp) fun j hj => ?_
  obtain rfl : j = i := by simpa using hj
  unfold WO wpList at h
  unfold wpOp
  simp only [hi]
  have ho : ¬ LetsOut (lift n fun e σ' w' => e = .normal ∧ S0 w' ∧ WS P n ops Q S0 fuel (listed.setIfInBounds j true) σ' w') := by
    rintro ⟨a, w, σ', _, h, _⟩; cases h
  have hk : ∀ a w', wpList P ops (lift n fun e σ' w' => e = .normal ∧ S0 w' ∧ WS P n ops Q S0 fuel (listed.setIfInBounds j true) σ' w') [] a w' →
      (S0 w' ∧ wpAnyH P .any ops (fun e a w => e = .normal ∧ ∃ σ, a = mk n σ ∧ Q σ w) S0 fuel (listed.setIfInBounds j true) a w') := by
    rintro a w' ⟨σ', rfl, _, hb, hx⟩; exact ⟨hb, hx⟩
  split at h
  · rename_i hw
    rw [if_pos hw]
    rcases h with h | ⟨_, h⟩
    · exact .inl (wp_two hk (fun c a w hc => by obtain ⟨_, _, hc, _⟩ := hc; cases hc) ho h)
    · exact absurd h ho
  · rename_i hw
    rw [if_neg hw]; exact hk _ _ h
end
end Go.Proofs.YtaegacblpbbndaaGreatDoor
end
section
namespace Go.Proofs.YtaegacblpbbndaaGreatDoor
open Go Go.RowKit
theorem en_50 : Enters Tryz.prog 50 := enters_of Tryz.func50 (by kernel_rfl) rfl
theorem en_31 : Enters Tryz.prog 31 := enters_of Tryz.func31 (by kernel_rfl) rfl
theorem en_33 : Enters Tryz.prog 33 := enters_of Tryz.func33 (by kernel_rfl) rfl
theorem en_16 : Enters Tryz.prog 16 := enters_of Tryz.func16 (by kernel_rfl) rfl
theorem shape_of {w : World} {b : Nat} {c : Array Value} {T : TypeId} (h : w.heap[b]? = some (.cells c T (0, 0))) : w.shape? b = some (T, c.size) := by simp [World.shape?, h]
theorem noesc (x : Value) (w : World) : (callFunc 82 #[x]).run Tryz.prog w = .ok (.value x) w := by
 rw [run_callFunc_extern Tryz.func82 (by kernel_rfl) (by kernel_rfl) (by kernel_rfl) (e := Extern.AbiNoEscape.same) (by kernel_rfl), Lib.run_noEscape]; rfl
theorem info_builder : ∃ j, Tryz.prog.info? 41 = some j ∧ j.size ≠ 0 := by
 have h : (Tryz.prog.info? 41).map (fun j => j.size) = some 2 := by kernel_rfl
 obtain ⟨j, hj, hs⟩ := Option.map_eq_some_iff.1 h
 exact ⟨j, hj, by omega⟩
set_option maxHeartbeats 400000 in
set_option maxRecDepth 100000 in
theorem check_fresh (b : Nat) (u : Value) (w : World) (hb : w.heap[b]? = some (.cells #[.pointer none, u] 41 (0, 0))) :
  Calls Tryz.prog 50 #[(.pointer (some ⟨b, 0, none⟩))] w (Ret fun v w' => w'.heap[b]? = some (.cells #[.pointer (some ⟨b, 0, none⟩), u] 41 (0, 0)) ∧ w.grownBy w' (some b)) := by
 obtain ⟨j, hj, hjs⟩ := info_builder
 refine calls_W Tryz.func50 rfl Tryz.ntmps50 ?_
 refine W_seq ?_
 refine W_reg ?_
 refine WO_pure (v := (.pointer (some ⟨b, 0, none⟩))) rfl rfl ?_
 refine WO_pure (v := (.pointer (some ⟨b, 0, none⟩))) rfl rfl ?_
 refine WO_same (v := (.pointer (some ⟨b, 0, none⟩))) rfl (by kernel_rfl) ?_
 refine WO_load (a := ⟨b, 0, none⟩) (v := (.pointer none)) rfl rfl Tryz.underlying38 rfl (cell_of hb rfl) ?_
 refine WO_peql (a := none) rfl rfl rfl Tryz.underlying38 ?_
 refine WO_nil ?_
 refine W_true rfl ?_
 refine W_reg ?_
 refine WO_pure (v := (.pointer (some ⟨b, 0, none⟩))) rfl rfl ?_
 refine WO_pure (v := (.pointer (some ⟨b, 0, none⟩))) rfl rfl ?_
 refine WO_tounsafe (a := ⟨b, 0, none⟩) rfl rfl Tryz.underlying38 Tryz.underlying110 hj hjs (shape_of hb) (by simp) ?_
 refine WO_extern1 (v := .pointer (some ⟨b, 0, none⟩)) rfl rfl (noesc _ _) ?_
 refine WO_fromunsafe (a := ⟨b, 0, none⟩) rfl rfl Tryz.underlying110 Tryz.underlying38 hj (shape_of hb) (by kernel_rfl) ?_
 refine WO_pure (v := (.pointer (some ⟨b, 0, none⟩))) rfl rfl ?_
 refine WO_same (v := (.pointer (some ⟨b, 0, none⟩))) rfl (by kernel_rfl) ?_
 have p1 := hb
 refine WO_store (b := b) (o := 0) (v := (.pointer (some ⟨b, 0, none⟩))) rfl rfl rfl (fun _ => by kernel_rfl) rfl p1 (by simp) (fun w1 u1 => ?_)
 have e1 : w1.heap[b]? = some (.cells #[(.pointer (some ⟨b, 0, none⟩)), u] 41 (0, 0)) := u1.here
 have z1 := u1.size
 refine WO_nil ?_
 refine body_ret0 (fn := Tryz.f50) (by first | exact .inl rfl | exact .inr rfl) rfl ?_
 exact ⟨e1, (grown_upd (grown_refl w _) u1 (by first | (left; omega) | (right; rfl)))⟩
set_option maxHeartbeats 400000 in
set_option maxRecDepth 100000 in
theorem check_used (b : Nat) (u : Value) (w : World) (hb : w.heap[b]? = some (.cells #[.pointer (some ⟨b, 0, none⟩), u] 41 (0, 0))) :
  Calls Tryz.prog 50 #[(.pointer (some ⟨b, 0, none⟩))] w (Ret fun v w' => w'.heap[b]? = some (.cells #[.pointer (some ⟨b, 0, none⟩), u] 41 (0, 0)) ∧ w.grownBy w' (some b)) := by
 obtain ⟨j, hj, hjs⟩ := info_builder
 refine calls_W Tryz.func50 rfl Tryz.ntmps50 ?_
 refine W_seq ?_
 refine W_reg ?_
 refine WO_pure (v := (.pointer (some ⟨b, 0, none⟩))) rfl rfl ?_
 refine WO_pure (v := (.pointer (some ⟨b, 0, none⟩))) rfl rfl ?_
 refine WO_same (v := (.pointer (some ⟨b, 0, none⟩))) rfl (by kernel_rfl) ?_
 refine WO_load (a := ⟨b, 0, none⟩) (v := (.pointer (some ⟨b, 0, none⟩))) rfl rfl Tryz.underlying38 rfl (cell_of hb rfl) ?_
 refine WO_peql (a := (some ⟨b, 0, none⟩)) rfl rfl rfl Tryz.underlying38 ?_
 refine WO_nil ?_
 refine W_false rfl ?_
 refine W_seq ?_
 refine W_reg ?_
 refine WO_pure (v := (.pointer (some ⟨b, 0, none⟩))) rfl rfl ?_
 refine WO_pure (v := (.pointer (some ⟨b, 0, none⟩))) rfl rfl ?_
 refine WO_same (v := (.pointer (some ⟨b, 0, none⟩))) rfl (by kernel_rfl) ?_
 refine WO_load (a := ⟨b, 0, none⟩) (v := (.pointer (some ⟨b, 0, none⟩))) rfl rfl Tryz.underlying38 rfl (cell_of hb rfl) ?_
 refine WO_pure (v := (.pointer (some ⟨b, 0, none⟩))) rfl rfl ?_
 refine WO_pnesame (a := ⟨b, 0, none⟩) rfl rfl rfl Tryz.underlying38 hj ?_
 refine WO_nil ?_
 refine W_false rfl ?_
 refine W_skip ?_
 refine body_ret0 (fn := Tryz.f50) (by first | exact .inl rfl | exact .inr rfl) rfl ?_
 exact ⟨hb, (grown_refl w _)⟩
theorem copy_any (b : Nat) (p u : Value) (w : World) (hp : p = .pointer none ∨ p = .pointer (some ⟨b, 0, none⟩)) (hb : w.heap[b]? = some (.cells #[p, u] 41 (0, 0))) : Calls Tryz.prog 50 #[.pointer (some ⟨b, 0, none⟩)] w (Ret fun v w' => w'.heap[b]? = some (.cells #[.pointer (some ⟨b, 0, none⟩), u] 41 (0, 0)) ∧ w.grownBy w' (some b)) := by
 rcases hp with rfl | rfl
 ·exact check_fresh b u w hb
 ·exact check_used b u w hb
set_option maxHeartbeats 400000 in
set_option maxRecDepth 100000 in
theorem writeString_step (b : Nat) (p u : Value) (l s : List UInt8) (w : World) (hp : p = .pointer none ∨ p = .pointer (some ⟨b, 0, none⟩)) (hb : w.heap[b]? = some (.cells #[p, u] 41 (0, 0))) (ho : w.ownsRow b 5 1 u l.length (Lib.byteCells l)) (hl : l.length + s.length ≤ 140737488355328) :
  Calls Tryz.prog 31 #[(.pointer (some ⟨b, 0, none⟩)), (S s)] w (Ret fun v w' => Bld w' b (l ++ s) ∧ Kept b w w') := by
 have hbl := heap_lt hb
 have hne2 : u.ownBlock = none ∨ u.ownBlock ≠ some b := .inr (own_ne_cell ho hb (by decide))
 refine calls_W Tryz.func31 rfl Tryz.ntmps31 ?_
 refine W_seq ?_
 refine W_reg ?_
 refine WO_pure (v := (.int .i64 0)) rfl rfl ?_
 refine WO_pure (v := (.nilIface)) rfl rfl ?_
 refine WO_nil ?_
 refine W_seq ?_
 refine W_reg ?_
 refine WO_pure (v := (.pointer (some ⟨b, 0, none⟩))) rfl rfl ?_
 refine WO_call rfl (by exact en_50) (copy_any b p u _ hp hb) ?_
 rintro _ wc ⟨hc1, hc2⟩
 have zc := hc2.size
 refine WO_nil ?_
 refine W_seq ?_
 refine W_reg ?_
 refine WO_pure (v := (.pointer (some ⟨b, 0, none⟩))) rfl rfl ?_
 refine WO_pure (v := (.pointer (some ⟨b, 0, none⟩))) rfl rfl ?_
 refine WO_pure (v := (.pointer (some ⟨b, 0, none⟩))) rfl rfl ?_
 refine WO_same (v := (.pointer (some ⟨b, 1, none⟩))) rfl (by kernel_rfl) ?_
 refine WO_load (a := ⟨b, 1, none⟩) (v := u) rfl rfl Tryz.underlying39 rfl (cell_of hc1 rfl) ?_
 refine WO_pure (v := (S s)) rfl rfl ?_
 have o1a := (World.ownsRow.kept ho hc2 (by first | assumption | (right; intro e; have := (ho.lt _ e).1; omega) | simp_all))
 refine WO_appendstr (v := u) (base := b) (l := s) rfl rfl rfl Tryz.underlying39 Tryz.underlying9 (by kernel_rfl) o1a (by omega) (by omega) (fun a1 w1 o1 g1 => ?_)
 have z1 := g1.size
 refine WO_pure (v := (.pointer (some ⟨b, 0, none⟩))) rfl rfl ?_
 refine WO_same (v := (.pointer (some ⟨b, 1, none⟩))) rfl (by kernel_rfl) ?_
 have p2 := (grown_keep g1 hc1 (cell_ne_own o1a hc1 (by decide)))
 refine WO_store (b := b) (o := 1) (v := a1) rfl rfl rfl (fun _ => by kernel_rfl) (oneC_owned o1) p2 (by simp) (fun w2 u2 => ?_)
 have e2 : w2.heap[b]? = some (.cells #[(.pointer (some ⟨b, 0, none⟩)), a1] 41 (0, 0)) := u2.here
 have z2 := u2.size
 refine WO_nil ?_
 refine W_seq ?_
 refine W_reg ?_
 refine WO_pure (v := (S s)) rfl rfl ?_
 refine WO_slen (l := s) rfl rfl Tryz.underlying9 ?_
 refine WO_pure (v := (.int .i64 ((s.length : Int)))) rfl rfl ?_
 refine WO_pure (v := (.nilIface)) rfl rfl ?_
 refine WO_nil ?_
 refine W_ret ?_
 refine body_ret2 rfl (v0 := (.int .i64 ((s.length : Int)))) (v1 := (.nilIface)) rfl rfl ?_
 exact ⟨⟨_, _, .inr rfl, e2, by rw [Lib.byteCells_append, List.length_append]; exact (u2.owns o1 (own_ne_cell o1 p2 (by decide)))⟩, (by first | exact kept_updb (kept_own (kept_grown (Kept.refl b w) hc2 (by omega)) o1a g1 (by omega)) u2 | exact kept_updo (kept_own (kept_grown (Kept.refl b w) hc2 (by omega)) o1a g1 (by omega)) u2 (by omega))⟩
set_option maxHeartbeats 400000 in
set_option maxRecDepth 100000 in
theorem writeByte_step (b : Nat) (p u : Value) (l : List UInt8) (c : UInt8) (w : World) (hp : p = .pointer none ∨ p = .pointer (some ⟨b, 0, none⟩)) (hb : w.heap[b]? = some (.cells #[p, u] 41 (0, 0))) (ho : w.ownsRow b 5 1 u l.length (Lib.byteCells l)) (hl : l.length + 1 ≤ 140737488355328) :
  Calls Tryz.prog 33 #[(.pointer (some ⟨b, 0, none⟩)), (.int .u8 ((c.toNat : Int)))] w (Ret fun v w' => Bld w' b (l ++ [c]) ∧ Kept b w w') := by
 have hbl := heap_lt hb
 have hne2 : u.ownBlock = none ∨ u.ownBlock ≠ some b := .inr (own_ne_cell ho hb (by decide))
 refine calls_W Tryz.func33 rfl Tryz.ntmps33 ?_
 refine W_seq ?_
 refine W_reg ?_
 refine WO_pure (v := (.nilIface)) rfl rfl ?_
 refine WO_nil ?_
 refine W_seq ?_
 refine W_reg ?_
 refine WO_pure (v := (.pointer (some ⟨b, 0, none⟩))) rfl rfl ?_
 refine WO_call rfl (by exact en_50) (copy_any b p u _ hp hb) ?_
 rintro _ wc ⟨hc1, hc2⟩
 have zc := hc2.size
 refine WO_nil ?_
 refine W_seq ?_
 refine W_reg ?_
 refine WO_pure (v := (.pointer (some ⟨b, 0, none⟩))) rfl rfl ?_
 refine WO_pure (v := (.pointer (some ⟨b, 0, none⟩))) rfl rfl ?_
 refine WO_pure (v := (.pointer (some ⟨b, 0, none⟩))) rfl rfl ?_
 refine WO_same (v := (.pointer (some ⟨b, 1, none⟩))) rfl (by kernel_rfl) ?_
 refine WO_load (a := ⟨b, 1, none⟩) (v := u) rfl rfl Tryz.underlying39 rfl (cell_of hc1 rfl) ?_
 refine WO_pure (v := (.int .u8 ((c.toNat : Int)))) rfl rfl ?_
 refine WO_bslice (k := 1) (cs := #[(.int .u8 ((c.toNat : Int)))]) (e := 5) rfl (fun _ => by kernel_rfl) (fun w1 n1 => ?_)
 have e1 : w1.heap[wc.heap.size]? = some (.cells #[(.int .u8 ((c.toNat : Int)))] 5 (0, 0)) := n1.here
 have z1 := n1.size
 have o1 := n1.owned (base := b) (size := 1) (k := 1) (by omega) (by omega) rfl
 have o2a := (n1.owns (World.ownsRow.kept ho hc2 (by first | assumption | (right; intro e; have := (ho.lt _ e).1; omega) | simp_all)))
 refine WO_append1 (v := u) (sz := 1) (base := b) (bytes := 1) rfl rfl rfl Tryz.underlying39 (by kernel_rfl) (by decide) o2a rfl e1 (by simp [Value.oneCell']) (by omega) (by omega) (by omega) (fun a2 w2 o2 g2 y2 => ?_)
 have z2 := g2.size
 refine WO_pure (v := (.pointer (some ⟨b, 0, none⟩))) rfl rfl ?_
 refine WO_same (v := (.pointer (some ⟨b, 1, none⟩))) rfl (by kernel_rfl) ?_
 have p3 := (grown_keep g2 (n1.keep hc1) (cell_ne_own o2a (n1.keep hc1) (by decide)))
 refine WO_store (b := b) (o := 1) (v := a2) rfl rfl rfl (fun _ => by kernel_rfl) (oneC_owned o2) p3 (by simp) (fun w3 u3 => ?_)
 have e3 : w3.heap[b]? = some (.cells #[(.pointer (some ⟨b, 0, none⟩)), a2] 41 (0, 0)) := u3.here
 have z3 := u3.size
 refine WO_nil ?_
 refine W_seq ?_
 refine W_reg ?_
 refine WO_pure (v := (.nilIface)) rfl rfl ?_
 refine WO_nil ?_
 refine W_ret ?_
 refine body_ret1 rfl (v0 := (.nilIface)) rfl ?_
 exact ⟨⟨_, _, .inr rfl, e3, by rw [Lib.byteCells_append, List.length_append]; exact (u3.owns o2 (own_ne_cell o2 p3 (by decide)))⟩, (by first | exact kept_updb (kept_own (kept_ext (kept_grown (Kept.refl b w) hc2 (by omega)) n1.ext (by omega)) o2a g2 (by omega)) u3 | exact kept_updo (kept_own (kept_ext (kept_grown (Kept.refl b w) hc2 (by omega)) n1.ext (by omega)) o2a g2 (by omega)) u3 (by omega))⟩
theorem writeString_any {b : Nat} {l : List UInt8} {w : World} (s : List UInt8) (h : Bld w b l) (hl : l.length + s.length ≤ 140737488355328) : Calls Tryz.prog 31 #[.pointer (some ⟨b, 0, none⟩), S s] w (Ret fun v w' => Bld w' b (l ++ s) ∧ Kept b w w') := by
 obtain ⟨p, u, hp, hb, ho⟩ := h
 exact writeString_step b p u l s w hp hb ho hl
theorem writeByte_any {b : Nat} {l : List UInt8} {w : World} (c : UInt8) (h : Bld w b l) (hl : l.length + 1 ≤ 140737488355328) : Calls Tryz.prog 33 #[.pointer (some ⟨b, 0, none⟩), .int .u8 (c.toNat : Int)] w (Ret fun v w' => Bld w' b (l ++ [c]) ∧ Kept b w w') := by
 obtain ⟨p, u, hp, hb, ho⟩ := h
 exact writeByte_step b p u l c w hp hb ho hl
theorem string_any {b : Nat} {l : List UInt8} {w : World} (h : Bld w b l) : Calls Tryz.prog 16 #[.pointer (some ⟨b, 0, none⟩)] w (Ret fun v w' => v = S l ∧ Kept b w w') :=
 (Tryz.Builder_String_any_k b b l w h.kit (Nat.le_of_lt h.lt)).mono fun _ _ h => ⟨_, h.1, rfl, h.2.2⟩
end Go.Proofs.YtaegacblpbbndaaGreatDoor
end
section
namespace Go.Proofs.YtaegacblpbbndaaGreatDoor
open Go Go.RowKit
theorem en_15 : Enters Tryz.prog 15 := enters_of Tryz.func15 (by kernel_rfl) rfl
theorem en_6 : Enters Tryz.prog 6 := enters_of Tryz.func6 (by kernel_rfl) rfl
def wordN (k : Int) (i : Nat) : List UInt8 := if k = 4 ∧ i = 2 then [101, 108, 115, 101] else nth wordsL k.toNat
def sepN (k : Int) (i : Nat) : List UInt8 := if 0 < i then [32] ++ wordN k i ++ [32] else []
mutual
def textN : DepT → List UInt8
 | .mk k nm op ev args => if k = 1 then (if 0 < op then nm ++ ([32] ++ nth signsL op.toNat ++ [32] ++ ev) else nm) else [40] ++ joinN k 0 args ++ [41]
def joinN (k : Int) : Nat → List DepT → List UInt8
 | _, [] => []
 | i, a :: r => sepN k i ++ textN a ++ joinN k (i + 1) r
end
theorem word_len (j : Nat) : (nth wordsL j).length ≤ 7 := by
 match j with
 | 0 | 1 | 2 | 3 | 4 | 5 | 6 => decide
 | j + 7 => show ([] : List UInt8).length ≤ 7; decide
theorem sepN_len (k : Int) (i : Nat) : (sepN k i).length ≤ 9 := by
 unfold sepN wordN
 split
 ·split
  ·decide
  ·have := word_len k.toNat
   simp only [List.length_append, List.length_cons, List.length_nil]; omega
 ·simp
theorem sign_len (j : Nat) : (nth signsL j).length ≤ 3 := by
 match j with
 | 0 | 1 | 2 | 3 | 4 | 5 | 6 | 7 => decide
 | j + 8 => show ([] : List UInt8).length ≤ 3; decide
mutual
theorem textN_len : ∀ d : DepT, (textN d).length + 9 ≤ 16 * d.size
 | .mk k nm op ev args => by
  unfold textN DepT.size
  have h1 := joinN_len k 0 args
  have h2 := sign_len op.toNat
  split
  ·split
   ·simp only [List.length_append, List.length_cons, List.length_nil]; omega
   ·omega
  ·simp only [List.length_append, List.length_cons, List.length_nil]; omega
theorem joinN_len : ∀ (k : Int) (i : Nat) (l : List DepT), (joinN k i l).length ≤ 16 * argsSize l
 | k, i, [] => by simp [joinN]
 | k, i, a :: r => by
  unfold joinN argsSize
  have h1 := textN_len a
  have h2 := joinN_len k (i + 1) r
  have h3 := sepN_len k i
  simp only [List.length_append]; omega
end
theorem joinN_snoc (k : Int) : ∀ (j : Nat) (l : List DepT) (a : DepT), joinN k j (l ++ [a]) = joinN k j l ++ (sepN k (j + l.length) ++ textN a)
 | j, [], a => by simp [joinN]
 | j, x :: r, a => by
  rw [List.cons_append, joinN, joinN_snoc k (j + 1) r a, joinN]
  simp only [List.length_cons, List.append_assoc, show j + 1 + r.length = j + (r.length + 1) by omega]
theorem take_snoc {l : List DepT} {i : Nat} (h : i < l.length) : l.take (i + 1) = l.take i ++ [nth l i] := by
 rw [List.take_add_one, nth_eq h]; rfl
theorem joinN_take {k : Int} {l : List DepT} {i : Nat} (h : i < l.length) : joinN k 0 (l.take (i + 1)) = joinN k 0 (l.take i) ++ (sepN k i ++ textN (nth l i)) := by
 rw [take_snoc h, joinN_snoc, List.length_take, Nat.zero_add, Nat.min_eq_left (by omega)]
theorem sepN_else {k : Int} {i : Nat} (h : 0 < i) (h4 : k = 4 ∧ i = 2) : sepN k i = [32] ++ [101, 108, 115, 101] ++ [32] := by unfold sepN wordN; rw [if_pos h, if_pos h4]
theorem sepN_word {k : Int} {i : Nat} (h : 0 < i) (h4 : ¬ (k = 4 ∧ i = 2)) : sepN k i = [32] ++ nth wordsL k.toNat ++ [32] := by unfold sepN wordN; rw [if_pos h, if_neg h4]
theorem sepN_zero {k : Int} {i : Nat} (h : ¬ 0 < i) : sepN k i = [] := by unfold sepN; rw [if_neg h]
theorem argsSize_mono (l : List DepT) (i : Nat) : argsSize (l.take i) ≤ argsSize l := by
 induction l generalizing i with
 | nil => simp
 | cons d r ih =>
  cases i with
  | zero => simp [argsSize]
  | succ i => have := ih i; simp only [List.take_succ_cons, argsSize]; omega
theorem argsSize_take' {l : List DepT} {i : Nat} : i < l.length → argsSize (l.take i) + (nth l i).size ≤ argsSize l := fun h => argsSize_take h
theorem argsForm_nth {k : Int} : ∀ {l : List DepT} {i : Nat}, argsForm k l = true → i < l.length → formB (nth l i) = true
 | [], i, _, h => by simp at h
 | d :: r, i, h, hi => by
  unfold argsForm at h
  simp only [Bool.and_eq_true] at h
  cases i with
  | zero => exact h.2.1
  | succ i => exact argsForm_nth (l := r) h.2.2 (by simpa using hi)
theorem form_nm {k op : Int} {nm ev : List UInt8} {args : List DepT} (h : formB (.mk k nm op ev args) = true) (hk : k = 1) : 0 ≤ op ∧ op ≤ 7 ∧ args = [] ∧ nameB nm = true ∧ (op = 0 → ev = []) ∧ (op ≠ 0 → evrE ev = 0) := by
 unfold formB at h
 rw [if_pos hk] at h
 unfold formName at h
 simp only [Bool.and_eq_true, decide_eq_true_eq] at h
 obtain ⟨h1, h2, h3, h4, h5⟩ := h
 refine ⟨h2, h3, List.length_eq_zero_iff.1 h4, h1, fun e => ?_, fun e => ?_⟩
 ·rw [if_pos e] at h5; simpa using h5
 ·rw [if_neg e] at h5; simpa using h5
theorem form_args {k op : Int} {nm ev : List UInt8} {args : List DepT} (h : formB (.mk k nm op ev args) = true) (hk : k ≠ 1) : 2 ≤ k ∧ k ≤ 6 ∧ nm = [] ∧ op = 0 ∧ ev = [] ∧ 2 ≤ args.length ∧ (k = 4 → args.length ≤ 3) ∧ (k = 6 → args.length ≤ 2) ∧ argsForm k args = true := by
 unfold formB at h
 rw [if_neg hk] at h
 simp only [Bool.and_eq_true, formBad, Bool.not_eq_true', decide_eq_false_iff_not, not_or, Decidable.not_not] at h
 obtain ⟨⟨⟨h1, h2, h3, h4, h5, h6⟩, h7, h8⟩, h9⟩ := h
 refine ⟨by omega, by omega, h3, h4, h5, by omega, fun e => ?_, fun e => ?_, h9⟩
 ·exact Nat.le_of_not_lt fun x => h7 ⟨e, x⟩
 ·exact Nat.le_of_not_lt fun x => h8 ⟨e, x⟩
def PrintSaid (d : DepT) : Prop := ∀ (u w : World) (cs : List Value) (b : Nat) (l : List UInt8), DepC u d cs → Below u.heap.size u w → u.heap.size ≤ b → Bld w b l → formB d = true → d.size ≤ 4194304 → l.length + 16 * d.size ≤ 140737488355328 →
 Calls Tryz.prog 15 #[.pointer (some ⟨b, 0, none⟩), .agg cs.toArray] w (Ret fun v w' => Bld w' b (l ++ textN d) ∧ Kept b w w')
set_option maxHeartbeats 2000000 in
set_option maxRecDepth 100000 in
theorem print_step (k op : Nat) (nm ev : List UInt8) (args : List DepT) (sv : Value) (css : List (List Value)) (u w : World) (b : Nat) (l : List UInt8) (hr : RowIs u sv args.length 5 css.flatten) (ha : ArgsC u args css) (hu : Below u.heap.size u w) (hub : u.heap.size ≤ b) (hB : Bld w b l) (hf : formB (.mk k nm op ev args) = true) (hs : argsSize args + 1 + nm.length + ev.length ≤ 4194304) (hl : l.length + 16 * (argsSize args + 1 + nm.length + ev.length) ≤ 140737488355328) (ih : ∀ i, i < args.length → PrintSaid (nth args i)) :
  Calls Tryz.prog 15 #[(.pointer (some ⟨b, 0, none⟩)), (.agg #[(.int .i64 ((k : Int))), (S nm), (.int .i64 ((op : Int))), (S ev), sv])] w (Ret fun v w' => Bld w' b (l ++ textN (.mk k nm op ev args)) ∧ Kept b w w') := by
 have hal := argsSize_len args
 have hbl := hB.lt
 have hus := hu.size
 have hsl := sign_len op
 have hwl := word_len k
 refine calls_W Tryz.func15 rfl Tryz.ntmps15 ?_
 refine W_seq ?_
 refine W_reg ?_
 refine WO_box (v := (.agg #[(.int .i64 ((k : Int))), (S nm), (.int .i64 ((op : Int))), (S ev), sv])) rfl rfl (fun w1 n1 => ?_)
 have e1 : w1.heap[w.heap.size]? = some (.cells #[(.int .i64 ((k : Int))), (S nm), (.int .i64 ((op : Int))), (S ev), sv] 24 (0, 0)) := n1.here
 have z1 := n1.size
 refine WO_nil ?_
 refine W_seq ?_
 refine W_seq ?_
 refine W_reg ?_
 refine WO_same (v := (.pointer (some ⟨w.heap.size, 0, none⟩))) rfl (by kernel_rfl) ?_
 refine WO_load (a := ⟨w.heap.size, 0, none⟩) (v := (.int .i64 ((k : Int)))) rfl rfl Tryz.underlying3 rfl (cell_of e1 rfl) ?_
 refine WO_pure (v := (.bool (decide ((k : Int) = 1)))) rfl rfl ?_
 refine WO_nil ?_
 refine W_if (p := (k : Int) = 1) rfl (fun c1 => ?_) (fun c1 => ?_)
 ·refine W_seq ?_
  refine W_reg ?_
  have hfn := form_nm hf c1
  have hop := hfn.1
  have hop7 := hfn.2.1
  refine WO_pure (v := (.pointer (some ⟨b, 0, none⟩))) rfl rfl ?_
  refine WO_same (v := (.pointer (some ⟨w.heap.size, 1, none⟩))) rfl (by kernel_rfl) ?_
  refine WO_load (a := ⟨w.heap.size, 1, none⟩) (v := (S nm)) rfl rfl Tryz.underlying9 rfl (cell_of e1 rfl) ?_
  refine WO_call rfl (by exact en_31) (writeString_any (l := l) nm (Bld.ext hB (n1.below (Below.refl w.heap.size w) (Below.refl w.heap.size w).size)) (by first | omega | (simp only [List.length_append, List.length_cons, List.length_nil]; omega))) ?_
  rintro _ ws2 ⟨hs2, ks2⟩
  have zs2 := ks2.size
  refine WO_nil ?_
  refine W_seq ?_
  refine W_seq ?_
  refine W_reg ?_
  refine WO_same (v := (.pointer (some ⟨w.heap.size, 2, none⟩))) rfl (by kernel_rfl) ?_
  refine WO_load (a := ⟨w.heap.size, 2, none⟩) (v := (.int .i64 ((op : Int)))) rfl rfl Tryz.underlying3 rfl (cell_of (kept_keep' ks2 e1 (by decide) (by omega)) rfl) ?_
  refine WO_pure (v := (.bool (decide (0 < (op : Int))))) rfl rfl ?_
  refine WO_nil ?_
  refine W_if (p := 0 < (op : Int)) rfl (fun c2 => ?_) (fun c2 => ?_)
  ·refine W_orderS (by kernel_rfl) (S0 := fun w' => w'.heap[w.heap.size]? = some (.cells #[(.int .i64 ((k : Int))), (S nm), (.int .i64 ((op : Int))), (S ev), sv] 24 (0, 0))) (fun w3 d3 => ?_)
   have z3 := d3.ext.size
   refine WS_take (drew_keep d3 (kept_keep' ks2 e1 (by decide) (by omega))) 0 rfl (by kernel_rfl) (by kernel_rfl) (by kernel_rfl) rfl (fun _ => pure_run (v := (.pointer (some ⟨b, 0, none⟩))) rfl) ?_
   refine WS_take (drew_keep d3 (kept_keep' ks2 e1 (by decide) (by omega))) 2 rfl (by kernel_rfl) (by kernel_rfl) (by kernel_rfl) rfl (v := (.pointer (some ⟨w.heap.size, 2, none⟩))) (fun _ => by kernel_rfl) ?_
   refine WS_load (drew_keep d3 (kept_keep' ks2 e1 (by decide) (by omega))) 3 rfl (by kernel_rfl) (by kernel_rfl) (by kernel_rfl) rfl (fun wq bq => R_load (a := ⟨w.heap.size, 2, none⟩) (v := (.int .i64 ((op : Int)))) rfl Tryz.underlying3 rfl (cell_of bq rfl)) ?_
   refine WS_take (drew_keep d3 (kept_keep' ks2 e1 (by decide) (by omega))) 8 rfl (by kernel_rfl) (by kernel_rfl) (by kernel_rfl) rfl (v := (.pointer (some ⟨w.heap.size, 3, none⟩))) (fun _ => by kernel_rfl) ?_
   refine WS_load (drew_keep d3 (kept_keep' ks2 e1 (by decide) (by omega))) 9 rfl (by kernel_rfl) (by kernel_rfl) (by kernel_rfl) rfl (fun wq bq => R_load (a := ⟨w.heap.size, 3, none⟩) (v := (S ev)) rfl Tryz.underlying9 rfl (cell_of bq rfl)) ?_
   refine WS_only 1 (by kernel_rfl) rfl ?_
   refine WO_call rfl (by exact en_32) (signs_any _) ?_
   rintro v4 w4 ⟨r4, h4⟩
   have z4 := h4.size
   refine WO_nil ⟨rfl, (below_keep h4 (drew_keep d3 (kept_keep' ks2 e1 (by decide) (by omega)))), ?_⟩
   refine WS_only 4 (by kernel_rfl) rfl ?_
   refine WO_idx1 (v := v4) (f := S) (l := signsL) (i := op) rfl rfl rfl r4 Tryz.underlying30 (fun _ => by kernel_rfl) (by first | rfl | omega) (by first | omega | (simp; done) | (simp; omega)) (fun b5 o5 x5 => ?_)
   refine WO_nil ⟨rfl, (below_keep h4 (drew_keep d3 (kept_keep' ks2 e1 (by decide) (by omega)))), ?_⟩
   refine WS_only 5 (by kernel_rfl) rfl ?_
   refine WO_load (v := (S (nth signsL op))) rfl rfl Tryz.underlying9 rfl x5 ?_
   refine WO_nil ⟨rfl, (below_keep h4 (drew_keep d3 (kept_keep' ks2 e1 (by decide) (by omega)))), ?_⟩
   refine WS_take (below_keep h4 (drew_keep d3 (kept_keep' ks2 e1 (by decide) (by omega)))) 6 rfl (by kernel_rfl) (by kernel_rfl) (by kernel_rfl) rfl (fun _ => R_scat (l1 := [32]) (l2 := nth signsL op) rfl rfl (by first | omega | (simp; done) | (simp; omega))) ?_
   refine WS_take (below_keep h4 (drew_keep d3 (kept_keep' ks2 e1 (by decide) (by omega)))) 7 rfl (by kernel_rfl) (by kernel_rfl) (by kernel_rfl) rfl (fun _ => R_scat (l1 := ([32]) ++ (nth signsL op)) (l2 := [32]) rfl rfl (by first | omega | (simp; done) | (simp; omega))) ?_
   refine WS_take (below_keep h4 (drew_keep d3 (kept_keep' ks2 e1 (by decide) (by omega)))) 10 rfl (by kernel_rfl) (by kernel_rfl) (by kernel_rfl) rfl (fun _ => R_scat (l1 := (([32]) ++ (nth signsL op)) ++ ([32])) (l2 := ev) rfl rfl (by first | omega | (simp; done) | (simp; omega))) ?_
   refine WS_only 11 (by kernel_rfl) rfl ?_
   refine WO_call rfl (by exact en_31) (writeString_any (l := (l ++ nm)) (((([32]) ++ (nth signsL op)) ++ ([32])) ++ ev) (Bld.ext hs2 (below_ext (d3.below (Below.refl ws2.heap.size ws2)) h4)) (by first | omega | (simp only [List.length_append, List.length_cons, List.length_nil]; omega))) ?_
   rintro _ ws6 ⟨hs6, ks6⟩
   have zs6 := ks6.size
   refine WO_nil ⟨rfl, (kept_keep' ks6 (below_keep h4 (drew_keep d3 (kept_keep' ks2 e1 (by decide) (by omega)))) (by decide) (by omega)), ?_⟩
   refine WS_done (by kernel_rfl) ?_
   refine W_ret ?_
   refine body_ret0 (fn := Tryz.f15) (by first | exact .inl rfl | exact .inr rfl) rfl ?_
   refine ⟨?_, (Kept.trans (kept_ext (kept_ext (Kept.trans (kept_ext (Kept.refl b w) n1.ext (by omega)) ks2) d3.ext (by omega)) h4 (by omega)) ks6)⟩
   have e := hs6
   unfold textN; rw [if_pos c1, if_pos c2]; simpa using e
  ·refine W_skip ?_
   refine W_ret ?_
   refine body_ret0 (fn := Tryz.f15) (by first | exact .inl rfl | exact .inr rfl) rfl ?_
   refine ⟨?_, (Kept.trans (kept_ext (Kept.refl b w) n1.ext (by omega)) ks2)⟩
   have e := hs2
   unfold textN; rw [if_pos c1, if_neg c2]; exact e
 ·refine W_skip ?_
  refine W_seq ?_
  refine W_reg ?_
  have hfn := form_args hf c1
  have hk2 := hfn.1
  have hk6 := hfn.2.1
  have hfa := fun i (hi : i < args.length) => argsForm_nth hfn.2.2.2.2.2.2.2.2 hi
  refine WO_pure (v := (.pointer (some ⟨b, 0, none⟩))) rfl rfl ?_
  refine WO_call rfl (by exact en_33) (writeByte_any (l := l) 40 (Bld.ext hB (n1.below (Below.refl w.heap.size w) (Below.refl w.heap.size w).size)) (by first | omega | (simp only [List.length_append, List.length_cons, List.length_nil]; omega))) ?_
  rintro _ ws7 ⟨hs7, ks7⟩
  have zs7 := ks7.size
  refine WO_nil ?_
  refine W_seq ?_
  refine W_seq ?_
  refine W_reg ?_
  refine WO_same (v := (.pointer (some ⟨w.heap.size, 4, none⟩))) rfl (by kernel_rfl) ?_
  refine WO_load (a := ⟨w.heap.size, 4, none⟩) (v := sv) rfl rfl Tryz.underlying22 rfl (cell_of (kept_keep' ks7 e1 (by decide) (by omega)) rfl) ?_
  refine WO_lenrow (v := sv) (m := args.length) (sz := 5) rfl rfl (hr.ext (kept_bel (n1.below (below_ext (Below.refl u.heap.size u) hu) (below_ext (Below.refl u.heap.size u) hu).size) ks7 (by omega))) Tryz.underlying22 ?_
  refine WO_pure (v := (.int .i64 0)) rfl rfl ?_
  refine WO_nil ?_
  refine W_block ?_
  refine W_loop (fun g σ' w' => ∃ (i : Nat), σ' 0 = (.pointer (some ⟨b, 0, none⟩)) ∧ σ' 3 = (.pointer (some ⟨w.heap.size, 0, none⟩)) ∧ σ' 32 = sv ∧ σ' 33 = (.int .i64 ((args.length : Int))) ∧ σ' 34 = (.int .i64 ((i : Int))) ∧ w'.heap[w.heap.size]? = some (.cells #[(.int .i64 ((k : Int))), (S nm), (.int .i64 ((op : Int))), (S ev), sv] 24 (0, 0)) ∧ i ≤ args.length ∧ Kept b w w' ∧ Bld w' b (l ++ [40] ++ joinN k 0 (args.take i)) ∧ g = args.length - i) ?_ ?_
  ·refine ⟨_, 0, rfl, rfl, rfl, rfl, rfl, (kept_keep' ks7 e1 (by decide) (by omega)), ?_, ?_, ?_, rfl⟩
   ·omega
   ·exact (Kept.trans (kept_ext (Kept.refl b w) n1.ext (by omega)) ks7)
   ·simpa [joinN] using hs7
  ·rintro g σl1 wl1 ⟨i, l1_0, l1_3, l1_32, l1_33, l1_34, k1_1, f1_1, f1_2, f1_3, rfl⟩
   refine W_anchor (d := 0) l1_0 (W_anchor (d := 3) l1_3 (W_anchor (d := 32) l1_32 (W_anchor (d := 33) l1_33 (W_anchor (d := 34) l1_34 (?_)))))
   have zf := f1_2.size
   have zk := heap_lt k1_1
   have hjl := joinN_len k 0 (args.take i)
   have hjt := argsSize_take' (l := args) (i := i)
   have hjm := argsSize_mono args i
   refine W_seq ?_
   refine W_reg ?_
   refine WO_pure (v := (.bool (decide ((i : Int) < (args.length : Int))))) rfl rfl ?_
   refine WO_nil ?_
   refine W_seq ?_
   refine W_if (p := (i : Int) < (args.length : Int)) rfl (fun c3 => ?_) (fun c3 => ?_)
   ·refine W_skip ?_
    refine W_seq ?_
    refine W_block ?_
    refine W_seq ?_
    refine W_reg ?_
    refine WO_pure (v := (.int .i64 ((i : Int)))) rfl rfl ?_
    refine WO_idxs (v := sv) (css := css) (i := i) rfl rfl rfl (hr.ext (kept_bel (below_ext (Below.refl u.heap.size u) hu) f1_2 (by omega))) ha.each ha.len Tryz.underlying22 (fun _ => by kernel_rfl) (by first | rfl | omega) (by first | omega | (simp; done) | (simp; omega)) (fun b8 o8 x8 => ?_)
    refine WO_loads (vs := nth css i) (sz := 5) rfl rfl Tryz.underlying24 rfl (ha.each _ (nth_mem (by rw [ha.len]; omega))) (fun _ => by kernel_rfl) x8 ?_
    obtain ⟨ki, nmi, opi, evi, svi, bsi, csi, hxi, hri, hdi, hai⟩ := ArgsC.five ha (show i < args.length by omega)
    refine WO_eq 38 (v := .agg (nth css i).toArray) (v' := .agg #[.int .i64 ki, S nmi, .int .i64 opi, S evi, svi]) rfl (by rw [hxi]) ?_
    refine WO_alloc (v := (.agg #[(.int .i64 0), (S []), (.int .i64 0), (S []), (.slice none 0 0)])) rfl (fun _ => by kernel_rfl) (fun w9 n9 => ?_)
    have e9 : w9.heap[wl1.heap.size]? = some (.cells #[(.int .i64 0), (S []), (.int .i64 0), (S []), (.slice none 0 0)] 24 (0, 0)) := n9.here
    have z9 := n9.size
    refine WO_pure (v := (.int .i64 ((i : Int)))) rfl rfl ?_
    have p10 := e9
    refine WO_storerow (b := wl1.heap.size) (o := 0) (c' := #[(.int .i64 ki), (S nmi), (.int .i64 opi), (S evi), svi]) rfl rfl rfl (fun _ => by kernel_rfl) (by rw [Array.all_eq_true_iff_forall_mem]; intro v hv; simp only [List.mem_toArray, List.mem_cons, List.not_mem_nil, or_false] at hv; rcases hv with hv | hv | hv | hv | hv <;> (rw [hv]; first | rfl | exact oneCell_is (hri.ext (n9.below (kept_bel (below_ext (Below.refl u.heap.size u) hu) f1_2 (by omega)) (kept_bel (below_ext (Below.refl u.heap.size u) hu) f1_2 (by omega)).size)))) p10 (by simp) (fun w10 u10 => ?_)
    have e10 : w10.heap[wl1.heap.size]? = some (.cells #[(.int .i64 ki), (S nmi), (.int .i64 opi), (S evi), svi] 24 (0, 0)) := u10.here
    have z10 := u10.size
    refine WO_nil ?_
    refine W_seq ?_
    refine W_orderS (by kernel_rfl) (S0 := fun w' => w'.heap[w.heap.size]? = some (.cells #[(.int .i64 ((k : Int))), (S nm), (.int .i64 ((op : Int))), (S ev), sv] 24 (0, 0))) (fun w11 d11 => ?_)
    have z11 := d11.ext.size
    refine WS_take (drew_keep d11 (u10.keep (n9.keep k1_1) (by first | assumption | omega | (simp; omega)))) 1 rfl (by kernel_rfl) (by kernel_rfl) (by kernel_rfl) rfl (v := (.pointer (some ⟨w.heap.size, 0, none⟩))) (fun _ => by kernel_rfl) ?_
    refine WS_load (drew_keep d11 (u10.keep (n9.keep k1_1) (by first | assumption | omega | (simp; omega)))) 2 rfl (by kernel_rfl) (by kernel_rfl) (by kernel_rfl) rfl (fun wq bq => R_load (a := ⟨w.heap.size, 0, none⟩) (v := (.int .i64 ((k : Int)))) rfl Tryz.underlying3 rfl (cell_of bq rfl)) ?_
    refine WS_only 0 (by kernel_rfl) rfl ?_
    refine WO_call rfl (by exact en_34) (words_any _) ?_
    rintro v12 w12 ⟨r12, h12⟩
    have z12 := h12.size
    refine WO_nil ⟨rfl, (below_keep h12 (drew_keep d11 (u10.keep (n9.keep k1_1) (by first | assumption | omega | (simp; omega))))), ?_⟩
    refine WS_only 3 (by kernel_rfl) rfl ?_
    refine WO_idx1 (v := v12) (f := S) (l := wordsL) (i := k) rfl rfl rfl r12 Tryz.underlying30 (fun _ => by kernel_rfl) (by first | rfl | omega) (by first | omega | (simp; done) | (simp; omega)) (fun b13 o13 x13 => ?_)
    refine WO_nil ⟨rfl, (below_keep h12 (drew_keep d11 (u10.keep (n9.keep k1_1) (by first | assumption | omega | (simp; omega))))), ?_⟩
    refine WS_only 4 (by kernel_rfl) rfl ?_
    refine WO_load (v := (S (nth wordsL k))) rfl rfl Tryz.underlying9 rfl x13 ?_
    refine WO_nil ⟨rfl, (below_keep h12 (drew_keep d11 (u10.keep (n9.keep k1_1) (by first | assumption | omega | (simp; omega))))), ?_⟩
    refine WS_take (below_keep h12 (drew_keep d11 (u10.keep (n9.keep k1_1) (by first | assumption | omega | (simp; omega))))) 5 rfl (by kernel_rfl) (by kernel_rfl) (by kernel_rfl) rfl (fun _ => pure_run (v := (S (nth wordsL k))) rfl) ?_
    refine WS_done (by kernel_rfl) ?_
    refine W_seq ?_
    refine W_cut (fun σ' w' => w12 = w' ∧ σ' 0 = (.pointer (some ⟨b, 0, none⟩)) ∧ σ' 3 = (.pointer (some ⟨w.heap.size, 0, none⟩)) ∧ σ' 4 = (.int .i64 ((i : Int))) ∧ σ' 5 = (.pointer (some ⟨wl1.heap.size, 0, none⟩)) ∧ σ' 6 = (S (nth wordsL k)) ∧ σ' 32 = sv ∧ σ' 33 = (.int .i64 ((args.length : Int))) ∧ σ' 34 = (.int .i64 ((i : Int))) ∧ σ' 50 = (.bool (decide ((k : Int) = 4 ∧ i = 2)))) ?_ ?_
    ·refine W_reg ?_
     refine WO_same (v := (.pointer (some ⟨w.heap.size, 0, none⟩))) rfl (by kernel_rfl) ?_
     refine WO_load (a := ⟨w.heap.size, 0, none⟩) (v := (.int .i64 ((k : Int)))) rfl rfl Tryz.underlying3 rfl (cell_of (below_keep h12 (drew_keep d11 (u10.keep (n9.keep k1_1) (by first | assumption | omega | (simp; omega))))) rfl) ?_
     refine WO_pure (v := (.bool (decide ((k : Int) = 4)))) rfl rfl ?_
     refine WO_pure (v := (.bool (decide ((k : Int) = 4)))) rfl rfl ?_
     refine WO_splitp 47 (p := (k : Int) = 4) (by exact rfl) (fun c4 => ?_) (fun c4 => ?_)
     ·refine WO_pure (v := (.int .i64 ((i : Int)))) rfl rfl ?_
      refine WO_pure (v := (.bool (decide ((i : Int) = 2)))) rfl rfl ?_
      refine WO_pure (v := (.bool (decide ((i : Int) = 2)))) rfl rfl ?_
      refine WO_nil ?_
      exact ⟨rfl, rfl, rfl, rfl, rfl, rfl, rfl, rfl, rfl, (by show ((.bool (decide ((i : Int) = 2))) : Value) = (.bool (decide ((k : Int) = 4 ∧ i = 2))); show Value.bool _ = Value.bool _; rw [Value.bool.injEq, Bool.eq_iff_iff]; first | (simp [c4]; done) | (simp [c4]; omega) | (simp_all []; done) | (simp_all []; omega) | (simp only [Bool.or_eq_true, Bool.and_eq_true, Bool.not_eq_true', decide_eq_true_eq, decide_eq_false_iff_not]; grind))⟩
     ·refine WO_pass rfl ?_
      refine WO_pass rfl ?_
      refine WO_pure (v := (.bool false)) rfl rfl ?_
      refine WO_nil ?_
      exact ⟨rfl, rfl, rfl, rfl, rfl, rfl, rfl, rfl, rfl, (by show ((.bool false) : Value) = (.bool (decide ((k : Int) = 4 ∧ i = 2))); show Value.bool _ = Value.bool _; rw [Value.bool.injEq, Bool.eq_iff_iff]; first | (simp [c4]; done) | (simp [c4]; omega) | (simp_all []; done) | (simp_all []; omega) | (simp only [Bool.or_eq_true, Bool.and_eq_true, Bool.not_eq_true', decide_eq_true_eq, decide_eq_false_iff_not]; grind))⟩
    ·rintro σ1 _ ⟨rfl, h1_0, h1_3, h1_4, h1_5, h1_6, h1_32, h1_33, h1_34, h1_50⟩
     refine W_anchor (d := 0) h1_0 (W_anchor (d := 3) h1_3 (W_anchor (d := 4) h1_4 (W_anchor (d := 5) h1_5 (W_anchor (d := 6) h1_6 (W_anchor (d := 32) h1_32 (W_anchor (d := 33) h1_33 (W_anchor (d := 34) h1_34 (W_anchor (d := 50) h1_50 (?_)))))))))
     refine W_if (p := (k : Int) = 4 ∧ i = 2) rfl (fun c5 => ?_) (fun c5 => ?_)
     ·refine W_reg ?_
      refine WO_pure (v := (S ([101, 108, 115, 101]))) rfl rfl ?_
      refine WO_nil ?_
      refine W_seq ?_
      refine W_seq ?_
      refine W_reg ?_
      refine WO_pure (v := (.int .i64 ((i : Int)))) rfl rfl ?_
      refine WO_pure (v := (.bool (decide (0 < (i : Int))))) rfl rfl ?_
      refine WO_nil ?_
      refine W_if (p := 0 < (i : Int)) rfl (fun c6 => ?_) (fun c6 => ?_)
      ·refine W_reg ?_
       refine WO_pure (v := (.pointer (some ⟨b, 0, none⟩))) rfl rfl ?_
       refine WO_pure (v := (S ([101, 108, 115, 101]))) rfl rfl ?_
       refine WO_scat (l1 := [32]) (l2 := [101, 108, 115, 101]) rfl rfl rfl (by first | omega | (simp; done) | (simp; omega)) ?_
       refine WO_scat (l1 := ([32]) ++ ([101, 108, 115, 101])) (l2 := [32]) rfl rfl rfl (by first | omega | (simp; done) | (simp; omega)) ?_
       refine WO_call rfl (by exact en_31) (writeString_any (l := (l ++ [40] ++ joinN k 0 (args.take i))) ((([32]) ++ ([101, 108, 115, 101])) ++ ([32])) (Bld.ext f1_3 (below_ext (d11.below (u10.below (n9.below (Below.refl wl1.heap.size wl1) (Below.refl wl1.heap.size wl1).size) (by omega))) h12)) (by first | omega | (simp only [List.length_append, List.length_cons, List.length_nil]; omega))) ?_
       rintro _ ws14 ⟨hs14, ks14⟩
       have zs14 := ks14.size
       refine WO_nil ?_
       refine W_reg ?_
       refine WO_pure (v := (.pointer (some ⟨b, 0, none⟩))) rfl rfl ?_
       refine WO_loadrow (b := wl1.heap.size) (o := 0) (m := 5) (c := #[(.int .i64 ki), (S nmi), (.int .i64 opi), (S evi), svi]) rfl rfl Tryz.underlying24 rfl (fun _ => by kernel_rfl) (kept_keep' ks14 (below_keep h12 (drew_keep d11 e10)) (by decide) (by omega)) (by simp) ?_
       refine WO_eq 59 (v' := (.agg #[(.int .i64 ki), (S nmi), (.int .i64 opi), (S evi), svi])) rfl rfl ?_
       refine WO_call rfl (by exact en_15) (ih i (by omega) u _ [.int .i64 ki, S nmi, .int .i64 opi, S evi, svi] b ((l ++ [40] ++ joinN k 0 (args.take i)) ++ ((([32]) ++ ([101, 108, 115, 101])) ++ ([32]))) (by rw [← hxi]; exact ArgsC.at ha i (by omega)) (kept_bel (below_ext (d11.below (u10.below (n9.below (kept_bel (below_ext (Below.refl u.heap.size u) hu) f1_2 (by omega)) (kept_bel (below_ext (Below.refl u.heap.size u) hu) f1_2 (by omega)).size) (by omega))) h12) ks14 (by omega)) hub hs14 (hfa i (by omega)) (by have := argsSize_nth (show i < args.length by omega); omega) (by first | omega | (simp only [List.length_append, List.length_cons, List.length_nil]; omega))) ?_
       rintro _ ws15 ⟨hs15, ks15⟩
       have zs15 := ks15.size
       refine WO_nil ?_
       refine W_reg ?_
       refine WO_add (b := 1) (v := (i : Int) + 1) rfl rfl rfl (by simp only [kLo, kHi]; omega) ?_
       refine WO_pure (v := (.int .i64 ((i : Int) + 1))) rfl rfl ?_
       refine WO_nil ?_
       refine ⟨_, ?_, i + 1, rfl, rfl, rfl, rfl, rfl, (kept_keep' ks15 (kept_keep' ks14 (below_keep h12 (drew_keep d11 (u10.keep (n9.keep k1_1) (by first | assumption | omega | (simp; omega))))) (by decide) (by omega)) (by decide) (by omega)), ?_, ?_, ?_, rfl⟩
       ·omega
       ·omega
       ·exact (Kept.trans (Kept.trans (kept_ext (kept_ext (by first | exact kept_updb (kept_ext (Kept.trans (Kept.refl b w) f1_2) n9.ext (by omega)) u10 | exact kept_updo (kept_ext (Kept.trans (Kept.refl b w) f1_2) n9.ext (by omega)) u10 (by omega)) d11.ext (by omega)) h12 (by omega)) ks14) ks15)
       ·have e := hs15
        rw [joinN_take (show i < args.length by omega)]
        first | rw [sepN_else (k := (k : Int)) (i := i) (by omega) (by omega)] | rw [sepN_word (k := (k : Int)) (i := i) (by omega) (by omega)] | rw [sepN_zero (k := (k : Int)) (i := i) (by omega)]
        first | (simpa only [List.append_assoc, Int.toNat_natCast, List.nil_append] using e) | (exfalso; omega)
      ·refine W_skip ?_
       refine W_reg ?_
       refine WO_pure (v := (.pointer (some ⟨b, 0, none⟩))) rfl rfl ?_
       refine WO_loadrow (b := wl1.heap.size) (o := 0) (m := 5) (c := #[(.int .i64 ki), (S nmi), (.int .i64 opi), (S evi), svi]) rfl rfl Tryz.underlying24 rfl (fun _ => by kernel_rfl) (below_keep h12 (drew_keep d11 e10)) (by simp) ?_
       refine WO_eq 59 (v' := (.agg #[(.int .i64 ki), (S nmi), (.int .i64 opi), (S evi), svi])) rfl rfl ?_
       refine WO_call rfl (by exact en_15) (ih i (by omega) u _ [.int .i64 ki, S nmi, .int .i64 opi, S evi, svi] b (l ++ [40] ++ joinN k 0 (args.take i)) (by rw [← hxi]; exact ArgsC.at ha i (by omega)) (below_ext (d11.below (u10.below (n9.below (kept_bel (below_ext (Below.refl u.heap.size u) hu) f1_2 (by omega)) (kept_bel (below_ext (Below.refl u.heap.size u) hu) f1_2 (by omega)).size) (by omega))) h12) hub (Bld.ext f1_3 (below_ext (d11.below (u10.below (n9.below (Below.refl wl1.heap.size wl1) (Below.refl wl1.heap.size wl1).size) (by omega))) h12)) (hfa i (by omega)) (by have := argsSize_nth (show i < args.length by omega); omega) (by first | omega | (simp only [List.length_append, List.length_cons, List.length_nil]; omega))) ?_
       rintro _ ws16 ⟨hs16, ks16⟩
       have zs16 := ks16.size
       refine WO_nil ?_
       refine W_reg ?_
       refine WO_add (b := 1) (v := (i : Int) + 1) rfl rfl rfl (by simp only [kLo, kHi]; omega) ?_
       refine WO_pure (v := (.int .i64 ((i : Int) + 1))) rfl rfl ?_
       refine WO_nil ?_
       refine ⟨_, ?_, i + 1, rfl, rfl, rfl, rfl, rfl, (kept_keep' ks16 (below_keep h12 (drew_keep d11 (u10.keep (n9.keep k1_1) (by first | assumption | omega | (simp; omega))))) (by decide) (by omega)), ?_, ?_, ?_, rfl⟩
       ·omega
       ·omega
       ·exact (Kept.trans (kept_ext (kept_ext (by first | exact kept_updb (kept_ext (Kept.trans (Kept.refl b w) f1_2) n9.ext (by omega)) u10 | exact kept_updo (kept_ext (Kept.trans (Kept.refl b w) f1_2) n9.ext (by omega)) u10 (by omega)) d11.ext (by omega)) h12 (by omega)) ks16)
       ·have e := hs16
        rw [joinN_take (show i < args.length by omega)]
        first | rw [sepN_else (k := (k : Int)) (i := i) (by omega) (by omega)] | rw [sepN_word (k := (k : Int)) (i := i) (by omega) (by omega)] | rw [sepN_zero (k := (k : Int)) (i := i) (by omega)]
        first | (simpa only [List.append_assoc, Int.toNat_natCast, List.nil_append] using e) | (exfalso; omega)
     ·refine W_skip ?_
      refine W_seq ?_
      refine W_seq ?_
      refine W_reg ?_
      refine WO_pure (v := (.int .i64 ((i : Int)))) rfl rfl ?_
      refine WO_pure (v := (.bool (decide (0 < (i : Int))))) rfl rfl ?_
      refine WO_nil ?_
      refine W_if (p := 0 < (i : Int)) rfl (fun c7 => ?_) (fun c7 => ?_)
      ·refine W_reg ?_
       refine WO_pure (v := (.pointer (some ⟨b, 0, none⟩))) rfl rfl ?_
       refine WO_pure (v := (S (nth wordsL k))) rfl rfl ?_
       refine WO_scat (l1 := [32]) (l2 := nth wordsL k) rfl rfl rfl (by first | omega | (simp; done) | (simp; omega)) ?_
       refine WO_scat (l1 := ([32]) ++ (nth wordsL k)) (l2 := [32]) rfl rfl rfl (by first | omega | (simp; done) | (simp; omega)) ?_
       refine WO_call rfl (by exact en_31) (writeString_any (l := (l ++ [40] ++ joinN k 0 (args.take i))) ((([32]) ++ (nth wordsL k)) ++ ([32])) (Bld.ext f1_3 (below_ext (d11.below (u10.below (n9.below (Below.refl wl1.heap.size wl1) (Below.refl wl1.heap.size wl1).size) (by omega))) h12)) (by first | omega | (simp only [List.length_append, List.length_cons, List.length_nil]; omega))) ?_
       rintro _ ws17 ⟨hs17, ks17⟩
       have zs17 := ks17.size
       refine WO_nil ?_
       refine W_reg ?_
       refine WO_pure (v := (.pointer (some ⟨b, 0, none⟩))) rfl rfl ?_
       refine WO_loadrow (b := wl1.heap.size) (o := 0) (m := 5) (c := #[(.int .i64 ki), (S nmi), (.int .i64 opi), (S evi), svi]) rfl rfl Tryz.underlying24 rfl (fun _ => by kernel_rfl) (kept_keep' ks17 (below_keep h12 (drew_keep d11 e10)) (by decide) (by omega)) (by simp) ?_
       refine WO_eq 59 (v' := (.agg #[(.int .i64 ki), (S nmi), (.int .i64 opi), (S evi), svi])) rfl rfl ?_
       refine WO_call rfl (by exact en_15) (ih i (by omega) u _ [.int .i64 ki, S nmi, .int .i64 opi, S evi, svi] b ((l ++ [40] ++ joinN k 0 (args.take i)) ++ ((([32]) ++ (nth wordsL k)) ++ ([32]))) (by rw [← hxi]; exact ArgsC.at ha i (by omega)) (kept_bel (below_ext (d11.below (u10.below (n9.below (kept_bel (below_ext (Below.refl u.heap.size u) hu) f1_2 (by omega)) (kept_bel (below_ext (Below.refl u.heap.size u) hu) f1_2 (by omega)).size) (by omega))) h12) ks17 (by omega)) hub hs17 (hfa i (by omega)) (by have := argsSize_nth (show i < args.length by omega); omega) (by first | omega | (simp only [List.length_append, List.length_cons, List.length_nil]; omega))) ?_
       rintro _ ws18 ⟨hs18, ks18⟩
       have zs18 := ks18.size
       refine WO_nil ?_
       refine W_reg ?_
       refine WO_add (b := 1) (v := (i : Int) + 1) rfl rfl rfl (by simp only [kLo, kHi]; omega) ?_
       refine WO_pure (v := (.int .i64 ((i : Int) + 1))) rfl rfl ?_
       refine WO_nil ?_
       refine ⟨_, ?_, i + 1, rfl, rfl, rfl, rfl, rfl, (kept_keep' ks18 (kept_keep' ks17 (below_keep h12 (drew_keep d11 (u10.keep (n9.keep k1_1) (by first | assumption | omega | (simp; omega))))) (by decide) (by omega)) (by decide) (by omega)), ?_, ?_, ?_, rfl⟩
       ·omega
       ·omega
       ·exact (Kept.trans (Kept.trans (kept_ext (kept_ext (by first | exact kept_updb (kept_ext (Kept.trans (Kept.refl b w) f1_2) n9.ext (by omega)) u10 | exact kept_updo (kept_ext (Kept.trans (Kept.refl b w) f1_2) n9.ext (by omega)) u10 (by omega)) d11.ext (by omega)) h12 (by omega)) ks17) ks18)
       ·have e := hs18
        rw [joinN_take (show i < args.length by omega)]
        first | rw [sepN_else (k := (k : Int)) (i := i) (by omega) (by omega)] | rw [sepN_word (k := (k : Int)) (i := i) (by omega) (by omega)] | rw [sepN_zero (k := (k : Int)) (i := i) (by omega)]
        first | (simpa only [List.append_assoc, Int.toNat_natCast, List.nil_append] using e) | (exfalso; omega)
      ·refine W_skip ?_
       refine W_reg ?_
       refine WO_pure (v := (.pointer (some ⟨b, 0, none⟩))) rfl rfl ?_
       refine WO_loadrow (b := wl1.heap.size) (o := 0) (m := 5) (c := #[(.int .i64 ki), (S nmi), (.int .i64 opi), (S evi), svi]) rfl rfl Tryz.underlying24 rfl (fun _ => by kernel_rfl) (below_keep h12 (drew_keep d11 e10)) (by simp) ?_
       refine WO_eq 59 (v' := (.agg #[(.int .i64 ki), (S nmi), (.int .i64 opi), (S evi), svi])) rfl rfl ?_
       refine WO_call rfl (by exact en_15) (ih i (by omega) u _ [.int .i64 ki, S nmi, .int .i64 opi, S evi, svi] b (l ++ [40] ++ joinN k 0 (args.take i)) (by rw [← hxi]; exact ArgsC.at ha i (by omega)) (below_ext (d11.below (u10.below (n9.below (kept_bel (below_ext (Below.refl u.heap.size u) hu) f1_2 (by omega)) (kept_bel (below_ext (Below.refl u.heap.size u) hu) f1_2 (by omega)).size) (by omega))) h12) hub (Bld.ext f1_3 (below_ext (d11.below (u10.below (n9.below (Below.refl wl1.heap.size wl1) (Below.refl wl1.heap.size wl1).size) (by omega))) h12)) (hfa i (by omega)) (by have := argsSize_nth (show i < args.length by omega); omega) (by first | omega | (simp only [List.length_append, List.length_cons, List.length_nil]; omega))) ?_
       rintro _ ws19 ⟨hs19, ks19⟩
       have zs19 := ks19.size
       refine WO_nil ?_
       refine W_reg ?_
       refine WO_add (b := 1) (v := (i : Int) + 1) rfl rfl rfl (by simp only [kLo, kHi]; omega) ?_
       refine WO_pure (v := (.int .i64 ((i : Int) + 1))) rfl rfl ?_
       refine WO_nil ?_
       refine ⟨_, ?_, i + 1, rfl, rfl, rfl, rfl, rfl, (kept_keep' ks19 (below_keep h12 (drew_keep d11 (u10.keep (n9.keep k1_1) (by first | assumption | omega | (simp; omega))))) (by decide) (by omega)), ?_, ?_, ?_, rfl⟩
       ·omega
       ·omega
       ·exact (Kept.trans (kept_ext (kept_ext (by first | exact kept_updb (kept_ext (Kept.trans (Kept.refl b w) f1_2) n9.ext (by omega)) u10 | exact kept_updo (kept_ext (Kept.trans (Kept.refl b w) f1_2) n9.ext (by omega)) u10 (by omega)) d11.ext (by omega)) h12 (by omega)) ks19)
       ·have e := hs19
        rw [joinN_take (show i < args.length by omega)]
        first | rw [sepN_else (k := (k : Int)) (i := i) (by omega) (by omega)] | rw [sepN_word (k := (k : Int)) (i := i) (by omega) (by omega)] | rw [sepN_zero (k := (k : Int)) (i := i) (by omega)]
        first | (simpa only [List.append_assoc, Int.toNat_natCast, List.nil_append] using e) | (exfalso; omega)
   ·refine W_exit ?_
    refine W_reg ?_
    refine WO_pure (v := (.pointer (some ⟨b, 0, none⟩))) rfl rfl ?_
    refine WO_call rfl (by exact en_33) (writeByte_any (l := (l ++ [40] ++ joinN k 0 (args.take i))) 41 f1_3 (by first | omega | (simp only [List.length_append, List.length_cons, List.length_nil]; omega))) ?_
    rintro _ ws20 ⟨hs20, ks20⟩
    have zs20 := ks20.size
    refine WO_nil ?_
    refine body_ret0 (fn := Tryz.f15) (by first | exact .inl rfl | exact .inr rfl) rfl ?_
    refine ⟨?_, (Kept.trans (Kept.trans (Kept.refl b w) f1_2) ks20)⟩
    have e := hs20
    unfold textN; rw [if_neg c1]; rw [List.take_of_length_le (by omega)] at e; simpa using e
theorem print_any (d : DepT) : PrintSaid d := by
 refine dep_all (C := PrintSaid) (fun k nm op ev args ih => ?_) d
 intro u w cs b l h hu hub hB hf hs hl
 unfold DepC at h
 obtain ⟨sv, css, rfl, hr, ha⟩ := h
 unfold DepT.size at hs hl
 have hk : 0 ≤ k ∧ 0 ≤ op := by
  by_cases e : k = 1
  ·have := (form_nm hf e).1; omega
  ·have := form_args hf e; have h1 := this.1; have h2 := this.2.2.2.1; omega
 obtain ⟨k, rfl⟩ : ∃ n : Nat, k = n := ⟨k.toNat, by omega⟩
 obtain ⟨op, rfl⟩ : ∃ n : Nat, op = n := ⟨op.toNat, by omega⟩
 exact print_step k op nm ev args sv css u w b l hr ha hu hub hB hf hs hl ih
end Go.Proofs.YtaegacblpbbndaaGreatDoor
end
section
namespace Go.Proofs.YtaegacblpbbndaaGreatDoor
open Go Go.RowKit
def printF (d : DepT) : List UInt8 × Int := if checkE d = 0 then (textN d, 0) else ([], checkE d)
theorem check_form {d : DepT} (h : checkE d = 0) : formB d = true := by
 unfold checkE at h
 split at h
 ·assumption
 ·cases h
set_option maxHeartbeats 400000 in
set_option maxRecDepth 100000 in
theorem Print_step (k op : Int) (nm ev : List UInt8) (args : List DepT) (sv : Value) (css : List (List Value)) (w : World) (hr : RowIs w sv args.length 5 css.flatten) (ha : ArgsC w args css) (hs : argsSize args + 1 + nm.length + ev.length ≤ 4194304) :
  Calls Tryz.prog 6 #[(.agg #[(.int .i64 k), (S nm), (.int .i64 op), (S ev), sv])] w (Ret fun v w' => v = .tuple #[S (printF (DepT.mk k nm op ev args)).1, .int .i64 (printF (DepT.mk k nm op ev args)).2] ∧ Below w.heap.size w w') := by
 have hd0 : DepC w (DepT.mk k nm op ev args) [.int .i64 k, S nm, .int .i64 op, S ev, sv] := depC_mk hr ha
 have hz0 : (DepT.mk k nm op ev args).size ≤ 4194304 := by unfold DepT.size; omega
 refine calls_W Tryz.func6 rfl Tryz.ntmps6 ?_
 refine W_seq ?_
 refine W_reg ?_
 refine WO_box (v := (.agg #[(.int .i64 k), (S nm), (.int .i64 op), (S ev), sv])) rfl rfl (fun w1 n1 => ?_)
 have e1 : w1.heap[w.heap.size]? = some (.cells #[(.int .i64 k), (S nm), (.int .i64 op), (S ev), sv] 24 (0, 0)) := n1.here
 have z1 := n1.size
 refine WO_pure (v := (S [])) rfl rfl ?_
 refine WO_pure (v := (.int .i64 0)) rfl rfl ?_
 refine WO_nil ?_
 refine W_seq ?_
 refine W_seq ?_
 refine W_reg ?_
 refine WO_loadrow (b := w.heap.size) (o := 0) (m := 5) (c := #[(.int .i64 k), (S nm), (.int .i64 op), (S ev), sv]) rfl rfl Tryz.underlying24 rfl (fun _ => by kernel_rfl) e1 (by simp) ?_
 refine WO_eq 6 (v' := (.agg #[(.int .i64 k), (S nm), (.int .i64 op), (S ev), sv])) rfl rfl ?_
 refine WO_call rfl (by exact en_12) (check_any (DepT.mk k nm op ev args) _ (hd0.ext (n1.below (Below.refl w.heap.size w) (Below.refl w.heap.size w).size) _ _) hz0) ?_
 rintro _ wk ⟨rfl, bk⟩
 have z_wk := bk.size
 refine WO_pure (v := (.int .i64 (checkE (DepT.mk k nm op ev args)))) rfl rfl ?_
 refine WO_nil ?_
 refine W_seq ?_
 refine W_reg ?_
 refine WO_pure (v := (.int .i64 (checkE (DepT.mk k nm op ev args)))) rfl rfl ?_
 refine WO_pure (v := (.bool (!decide ((checkE (DepT.mk k nm op ev args)) = 0)))) rfl rfl ?_
 refine WO_nil ?_
 refine W_cond (t := !decide ((checkE (DepT.mk k nm op ev args)) = 0)) rfl (fun c1 => ?_) (fun c1 => ?_)
 ·refine W_seq ?_
  refine W_reg ?_
  refine WO_pure (v := (.int .i64 (checkE (DepT.mk k nm op ev args)))) rfl rfl ?_
  refine WO_pure (v := (S [])) rfl rfl ?_
  refine WO_pure (v := (.int .i64 (checkE (DepT.mk k nm op ev args)))) rfl rfl ?_
  refine WO_nil ?_
  refine W_ret ?_
  refine body_ret2 rfl (v0 := (S [])) (v1 := (.int .i64 (checkE (DepT.mk k nm op ev args)))) rfl rfl ?_
  have hbel := (below_ext (n1.below (Below.refl w.heap.size w) (Below.refl w.heap.size w).size) bk)
  exact ⟨by unfold printF; rw [if_neg (by simpa using c1)], hbel⟩
 ·refine W_skip ?_
  refine W_seq ?_
  refine W_reg ?_
  refine WO_alloc (v := (.agg #[(.pointer none), (.slice none 0 0)])) rfl (fun _ => by kernel_rfl) (fun w2 n2 => ?_)
  have e2 : w2.heap[wk.heap.size]? = some (.cells #[(.pointer none), (.slice none 0 0)] 41 (0, 0)) := n2.here
  have z2 := n2.size
  refine WO_nil ?_
  refine W_seq ?_
  refine W_reg ?_
  have hfo : formB (DepT.mk k nm op ev args) = true := check_form (by simpa using c1)
  refine WO_loadrow (b := w.heap.size) (o := 0) (m := 5) (c := #[(.int .i64 k), (S nm), (.int .i64 op), (S ev), sv]) rfl rfl Tryz.underlying24 rfl (fun _ => by kernel_rfl) (n2.keep (below_keep bk e1)) (by simp) ?_
  refine WO_eq 11 (v' := (.agg #[(.int .i64 k), (S nm), (.int .i64 op), (S ev), sv])) rfl rfl ?_
  refine WO_call rfl (by exact en_15) (print_any (DepT.mk k nm op ev args) w _ _ _ [] hd0 (n2.below (below_ext (n1.below (Below.refl w.heap.size w) (Below.refl w.heap.size w).size) bk) (below_ext (n1.below (Below.refl w.heap.size w) (Below.refl w.heap.size w).size) bk).size) (by omega) (Bld.fresh e2) hfo hz0 (by simp only [List.length_nil]; omega)) ?_
  rintro _ wp ⟨hp, kp⟩
  have zp := kp.size
  have z_wp := kp.size
  refine WO_nil ?_
  refine W_seq ?_
  refine W_reg ?_
  refine WO_call rfl (by exact en_16) (string_any hp) ?_
  rintro _ wt ⟨rfl, kt⟩
  have zt := kt.size
  have z_wt := kt.size
  refine WO_pure (v := (S (textN (DepT.mk k nm op ev args)))) rfl rfl ?_
  refine WO_pure (v := (.int .i64 0)) rfl rfl ?_
  refine WO_nil ?_
  refine W_ret ?_
  refine body_ret2 rfl (v0 := (S (textN (DepT.mk k nm op ev args)))) (v1 := (.int .i64 0)) rfl rfl ?_
  have hbel := (kept_bel (kept_bel (n2.below (below_ext (n1.below (Below.refl w.heap.size w) (Below.refl w.heap.size w).size) bk) (below_ext (n1.below (Below.refl w.heap.size w) (Below.refl w.heap.size w).size) bk).size) kp (by omega)) kt (by omega))
  exact ⟨by unfold printF; rw [if_pos (by simpa using c1)], hbel⟩
theorem Print_any {w : World} (d : DepT) (cs : List Value) (h : DepC w d cs) (hs : d.size ≤ 4194304) : Calls Tryz.prog 6 #[.agg cs.toArray] w (Ret fun v w' => v = .tuple #[S (printF d).1, .int .i64 (printF d).2] ∧ Below w.heap.size w w') := by
 cases d with
 | mk k nm op ev args =>
  unfold DepC at h
  obtain ⟨sv, css, rfl, hr, ha⟩ := h
  unfold DepT.size at hs
  exact Print_step k op nm ev args sv css w hr ha (by omega)
end Go.Proofs.YtaegacblpbbndaaGreatDoor
end
section
namespace Go.Proofs.YtaegacblpbbndaaGreatDoor
open Go Go.RowKit
def Toks : List UInt8 → List (List UInt8) → Prop
  | s, [] => (nextW s).1 = []
  | s, w :: r => (nextW s).1 = w ∧ w ≠ [] ∧ Toks (nextW s).2 r
theorem nextW_blank (s : List UInt8) : nextW (32 :: s) = nextW s := by unfold nextW; rw [show skipB (32 :: s) = skipB s from rfl]
theorem toks_blank {ws : List (List UInt8)} {s : List UInt8} (h : Toks s ws) : Toks (32 :: s) ws := by
  cases ws with
  | nil => unfold Toks at h ⊢; rw [nextW_blank]; exact h
  | cons w r => unfold Toks at h ⊢; rw [nextW_blank]; exact h
def Stop (t : List UInt8) : Prop := t = [] ∨ ∃ c r, t = c :: r ∧ (c = 32 ∨ c = 41)
theorem scan_word : ∀ (w t : List UInt8) (n : Nat), pairs w n = true → Stop t → scanW (w ++ t) n = w.length
  | [], t, n, h, ht => by
    have hn : n = 0 := by unfold pairs at h; have := of_decide_eq_true h; omega
    subst hn
    rcases ht with rfl | ⟨c, r, rfl, rfl | rfl⟩ <;> rfl
  | c :: w, t, n, h, ht => by
    unfold pairs at h
    split at h
    · cases h
    · rename_i hc
      have h32 : c ≠ 32 := fun e => hc (by rw [e]; decide)
      show (if c = 32 then 0 else if c = 41 then (if n = 0 then 0 else scanW (w ++ t) (n - 1) + 1) else if c = 40 then scanW (w ++ t) (n + 1) + 1 else scanW (w ++ t) n + 1) = w.length + 1
      rw [if_neg h32]
      by_cases h40 : c = 40
      · subst h40
        rw [if_pos (by decide)] at h
        simp only at h
        rw [if_neg (by omega)] at h
        rw [if_neg (by decide), if_pos rfl, scan_word w t (n + 1) h ht]
      · have h40' : ¬ c.toNat = 40 := fun e => h40 (UInt8.toNat_inj.1 e)
        rw [if_neg h40'] at h
        by_cases h41 : c = 41
        · subst h41
          rw [if_pos (by decide)] at h
          simp only at h
          split at h
          · cases h
          · rename_i hn
            rw [if_pos rfl, if_neg (by omega), scan_word w t (n - 1) (by rw [show ((n - 1 : Nat) : Int) = (n : Int) - 1 by omega]; exact h) ht]
        · have h41' : ¬ c.toNat = 41 := fun e => h41 (UInt8.toNat_inj.1 e)
          rw [if_neg h41'] at h
          simp only at h
          rw [if_neg (by omega)] at h
          rw [if_neg h41, if_neg h40, scan_word w t n h ht]
def Word (w : List UInt8) : Prop := pairs w 0 = true ∧ ∃ c r, w = c :: r ∧ c ≠ 40 ∧ c ≠ 41
theorem Word.next {w t : List UInt8} (h : Word w) (ht : Stop t) : nextW (w ++ t) = (w, t) := by
  obtain ⟨h1, c, r, rfl, h40, h41⟩ := h
  have hs := scan_word (c :: r) t 0 h1 ht
  have h32 : c ≠ 32 := by
    rintro rfl
    unfold pairs at h1
    rw [if_pos (by decide)] at h1; cases h1
  unfold nextW
  rw [show skipB (c :: r ++ t) = c :: (r ++ t) by show skipB (c :: (r ++ t)) = _; unfold skipB; rw [if_neg h32]]
  simp only
  rw [if_neg (by rintro (h | h) <;> contradiction)]
  rw [show c :: (r ++ t) = (c :: r) ++ t from rfl, hs, List.take_left, List.drop_left]
theorem Word.ne {w : List UInt8} (h : Word w) : w ≠ [] := by obtain ⟨_, c, r, rfl, _⟩ := h; simp
theorem toks_word {w t : List UInt8} {ws : List (List UInt8)} (h : Word w) (ht : Stop t) (hw : Toks t ws) : Toks (w ++ t) (w :: ws) := by
  unfold Toks
  rw [h.next ht]
  exact ⟨rfl, h.ne, hw⟩
theorem toks_open {t : List UInt8} {ws : List (List UInt8)} (hw : Toks t ws) : Toks (40 :: t) ([40] :: ws) := by
  unfold Toks
  exact ⟨rfl, by simp, hw⟩
theorem toks_close {t : List UInt8} {ws : List (List UInt8)} (hw : Toks t ws) : Toks (41 :: t) ([41] :: ws) := by
  unfold Toks
  exact ⟨rfl, by simp, hw⟩
theorem stop_blank (t : List UInt8) : Stop (32 :: t) := .inr ⟨_, _, rfl, .inl rfl⟩
theorem stop_close (t : List UInt8) : Stop (41 :: t) := .inr ⟨_, _, rfl, .inr rfl⟩
theorem word_name {nm : List UInt8} (h : nameB nm = true) : Word nm := by
  unfold nameB at h
  simp only [Bool.and_eq_true, Bool.not_eq_true'] at h
  refine ⟨h.2, ?_⟩
  have h1 := h.1
  unfold nameHead at h1
  simp only [Bool.or_eq_false_iff, decide_eq_false_iff_not] at h1
  obtain ⟨h2, _, h3, h4, _⟩ := h1
  cases nm with
  | nil => exact absurd rfl h2
  | cons c r => exact ⟨c, r, rfl, fun e => h3 (by rw [e]; rfl), fun e => h4 (by rw [e]; rfl)⟩
theorem pairs_plain : ∀ (l : List UInt8), (∀ c ∈ l, ¬ (c.toNat < 33 ∨ 126 < c.toNat) ∧ c ≠ 40 ∧ c ≠ 41) → pairs l 0 = true
  | [], _ => rfl
  | c :: r, h => by
    have hc := h c (by simp)
    unfold pairs
    rw [if_neg hc.1, if_neg (show ¬ c.toNat = 40 from fun e => hc.2.1 (UInt8.toNat_inj.1 e)), if_neg (show ¬ c.toNat = 41 from fun e => hc.2.2 (UInt8.toNat_inj.1 e))]
    show (if (0 : Int) < 0 then false else pairs r 0) = true
    rw [if_neg (by decide)]
    exact pairs_plain r fun x hx => h x (by simp [hx])
theorem may_plain (c : UInt8) (h : mayC c = true) : ¬ (c.toNat < 33 ∨ 126 < c.toNat) ∧ c ≠ 40 ∧ c ≠ 41 := by
  have key : ∀ n : Fin 256, mayC (UInt8.ofNat n) = true → ¬ ((UInt8.ofNat n).toNat < 33 ∨ 126 < (UInt8.ofNat n).toNat) ∧ UInt8.ofNat n ≠ 40 ∧ UInt8.ofNat n ≠ 41 := by decide +kernel
  have := key ⟨c.toNat, c.toNat_lt⟩
  rw [show UInt8.ofNat (⟨c.toNat, c.toNat_lt⟩ : Fin 256) = c by simp] at this
  exact this h
theorem head_ok {ev : List UInt8} (h : evrE ev = 0) : headB ev = true := by
  unfold evrE at h
  split at h
  · rename_i hb
    unfold evrB at hb
    exact (Bool.and_eq_true _ _ ▸ hb).1
  · cases h
theorem word_evr {ev : List UInt8} (h : evrE ev = 0) : Word ev := by
  have h1 := head_ok h
  unfold headB at h1
  simp only [Bool.and_eq_true, List.all_eq_true, decide_eq_true_eq] at h1
  obtain ⟨h2, h3, _⟩ := h1
  refine ⟨pairs_plain ev fun c hc => may_plain c (h2 c hc), ?_⟩
  cases ev with
  | nil => simp at h3
  | cons c r => exact ⟨c, r, rfl, (may_plain c (h2 c (by simp))).2⟩
theorem evr_len {ev : List UInt8} (h : evrE ev = 0) : ev.length ≤ 60 := by
  have h1 := head_ok h
  unfold headB at h1
  simp only [Bool.and_eq_true, decide_eq_true_eq] at h1
  exact h1.2.2
theorem name_len {nm : List UInt8} (h : nameB nm = true) : nm.length ≤ 60 := by
  unfold nameB at h
  simp only [Bool.and_eq_true, Bool.not_eq_true'] at h
  exact head_len h.1
theorem word_sign {n : Nat} (h1 : 1 ≤ n) (h7 : n ≤ 7) : Word (nth signsL n) ∧ signN (nth signsL n) = n := by
  have key : ∀ n : Fin 8, 1 ≤ n.1 → (pairs (nth signsL n.1) 0 = true ∧ ((nth signsL n.1).head? ≠ none ∧ (nth signsL n.1).head? ≠ some 40 ∧ (nth signsL n.1).head? ≠ some 41)) ∧ signN (nth signsL n.1) = (n.1 : Int) := by decide +kernel
  obtain ⟨⟨h2, h3, h4, h5⟩, h6⟩ := key ⟨n, by omega⟩ h1
  refine ⟨⟨h2, ?_⟩, h6⟩
  generalize nth signsL n = l at *
  cases l with
  | nil => simp at h3
  | cons c r => exact ⟨c, r, rfl, fun e => h4 (by rw [e]; rfl), fun e => h5 (by rw [e]; rfl)⟩
theorem word_kind {n : Nat} (h2 : 2 ≤ n) (h6 : n ≤ 6) : Word (nth wordsL n) ∧ kindW (nth wordsL n) = n ∧ signN (nth wordsL n) = 0 ∧ nth wordsL n ≠ [41] := by
  have key : ∀ n : Fin 7, 2 ≤ n.1 → (pairs (nth wordsL n.1) 0 = true ∧ ((nth wordsL n.1).head? ≠ none ∧ (nth wordsL n.1).head? ≠ some 40 ∧ (nth wordsL n.1).head? ≠ some 41)) ∧ kindW (nth wordsL n.1) = (n.1 : Int) ∧ signN (nth wordsL n.1) = 0 ∧ nth wordsL n.1 ≠ [41] := by decide +kernel
  obtain ⟨⟨h3, h4, h5, h7⟩, h8, h9, h10⟩ := key ⟨n, by omega⟩ h2
  refine ⟨⟨h3, ?_⟩, h8, h9, h10⟩
  generalize nth wordsL n = l at *
  cases l with
  | nil => simp at h4
  | cons c r => exact ⟨c, r, rfl, fun e => h5 (by rw [e]; rfl), fun e => h7 (by rw [e]; rfl)⟩
theorem word_else : Word [101, 108, 115, 101] := ⟨by decide, 101, _, rfl, by decide, by decide⟩
mutual
def wordsD : DepT → List (List UInt8)
  | .mk k nm op ev args => if k = 1 then (if 0 < op then [nm, nth signsL op.toNat, ev] else [nm]) else [40] :: (wordsJ k 0 args ++ [[41]])
def wordsJ (k : Int) : Nat → List DepT → List (List UInt8)
  | _, [] => []
  | i, a :: r => (if 0 < i then [wordN k i] else []) ++ (wordsD a ++ wordsJ k (i + 1) r)
end
theorem wordN_word {k : Int} {i : Nat} (h2 : 2 ≤ k) (h6 : k ≤ 6) : Word (wordN k i) := by
  unfold wordN
  split
  · exact word_else
  · obtain ⟨n, rfl⟩ : ∃ n : Nat, k = n := ⟨k.toNat, by omega⟩
    rw [Int.toNat_natCast]
    exact (word_kind (by omega) (by omega)).1
theorem join_stop {k : Int} {t : List UInt8} (ht : Stop t) : ∀ (i : Nat) (l : List DepT), Stop (joinN k (i + 1) l ++ t)
  | _, [] => by simpa [joinN] using ht
  | i, a :: r => by
    unfold joinN sepN
    rw [if_pos (by omega)]
    exact stop_blank _
mutual
theorem text_toks : ∀ (d : DepT), formB d = true → ∀ (t : List UInt8) (ws : List (List UInt8)), Stop t → Toks t ws → Toks (textN d ++ t) (wordsD d ++ ws)
  | .mk k nm op ev args, h, t, ws, ht, hw => by
    unfold textN wordsD
    by_cases hk : k = 1
    · have hf := form_nm h hk
      rw [if_pos hk, if_pos hk]
      split
      · rename_i hop
        obtain ⟨n, rfl⟩ : ∃ n : Nat, op = n := ⟨op.toNat, by omega⟩
        have hs := (word_sign (n := n) (by omega) (by omega)).1
        have he := word_evr (hf.2.2.2.2.2 (by omega))
        simp only [List.append_assoc, List.cons_append, List.nil_append, Int.toNat_natCast]
        exact toks_word (word_name hf.2.2.2.1) (stop_blank _) (toks_blank (toks_word hs (stop_blank _) (toks_blank (toks_word he ht hw))))
      · exact toks_word (word_name hf.2.2.2.1) ht hw
    · have hf := form_args h hk
      rw [if_neg hk, if_neg hk]
      simp only [List.append_assoc, List.cons_append, List.nil_append]
      refine toks_open ?_
      exact join_toks k (by omega) (by omega) 0 args hf.2.2.2.2.2.2.2.2 _ _ (stop_close t) (toks_close hw)
theorem join_toks : ∀ (k : Int), 2 ≤ k → k ≤ 6 → ∀ (i : Nat) (l : List DepT), argsForm k l = true → ∀ (t : List UInt8) (ws : List (List UInt8)), Stop t → Toks t ws → Toks (joinN k i l ++ t) (wordsJ k i l ++ ws)
  | k, h2, h6, i, [], _, t, ws, _, hw => by simpa [joinN, wordsJ] using hw
  | k, h2, h6, i, a :: r, h, t, ws, ht, hw => by
    unfold argsForm at h
    simp only [Bool.and_eq_true] at h
    have h1 := join_toks k h2 h6 (i + 1) r h.2.2 t ws ht hw
    have h3 := text_toks a h.2.1 _ _ (join_stop ht i r) h1
    unfold joinN wordsJ sepN
    split
    · simp only [List.append_assoc, List.cons_append, List.nil_append]
      exact toks_blank (toks_word (wordN_word h2 h6) (stop_blank _) (toks_blank h3))
    · simpa only [List.append_assoc, List.nil_append] using h3
end
mutual
theorem text_short : ∀ d : DepT, formB d = true → (textN d).length + 20 ≤ 1000 * partsN d
  | .mk k nm op ev args, h => by
    unfold textN partsN
    by_cases hk : k = 1
    · have hf := form_nm h hk
      have h1 := name_len hf.2.2.2.1
      have h2 := sign_len op.toNat
      rw [if_pos hk, if_pos hk]
      split
      · have h3 := evr_len (hf.2.2.2.2.2 (by omega))
        simp only [List.length_append, List.length_cons, List.length_nil]; omega
      · omega
    · have hf := form_args h hk
      rw [if_neg hk, if_neg hk]
      have h1 := join_short k 0 args hf.2.2.2.2.2.2.2.2
      simp only [List.length_append, List.length_cons, List.length_nil]; omega
theorem join_short : ∀ (k : Int) (i : Nat) (l : List DepT), argsForm k l = true → (joinN k i l).length + 11 * l.length ≤ 1000 * argsParts l
  | k, i, [], _ => by simp [joinN]
  | k, i, a :: r, h => by
    unfold argsForm at h
    simp only [Bool.and_eq_true] at h
    have h1 := text_short a h.2.1
    have h2 := join_short k (i + 1) r h.2.2
    have h3 := sepN_len k i
    unfold joinN argsParts
    simp only [List.length_append, List.length_cons]; omega
end
end Go.Proofs.YtaegacblpbbndaaGreatDoor
end
section
namespace Go.Proofs.YtaegacblpbbndaaGreatDoor
open Go Go.RowKit
theorem en_4 : Enters Tryz.prog 4 := enters_of Tryz.func4 (by kernel_rfl) rfl
theorem parse_is {s : List UInt8} {k op er : Int} {nm ev : List UInt8} {args : List DepT} (h : parseF s = (.mk k nm op ev args, er)) (w : World) (hl : s.length ≤ 1048576) : Calls Tryz.prog 14 #[S s] w (Ret fun v w' =>
  (∃ (sv : Value) (css : List (List Value)), v = .tuple #[.agg #[.int .i64 k, S nm, .int .i64 op, S ev, sv], .int .i64 er] ∧ RowIs w' sv args.length 5 css.flatten ∧ ArgsC w' args css) ∧ Below w.heap.size w w') :=
 (parse_any s w hl).mono fun e w' hh => by
  obtain ⟨v, he, hv, hb⟩ := hh
  rw [h] at hv
  exact ⟨v, he, parseIs_mk hv, hb⟩
theorem Print_ok {w : World} (d : DepT) (cs : List Value) (h : DepC w d cs) (hs : d.size ≤ 4194304) (hc : checkE d = 0) : Calls Tryz.prog 6 #[.agg cs.toArray] w (Ret fun v w' => v = .tuple #[S (textN d), .int .i64 0] ∧ Below w.heap.size w w') := by
 have h1 := Print_any d cs h hs
 rw [show printF d = (textN d, 0) by unfold printF; rw [if_pos hc]] at h1
 exact h1
theorem awake_parse : parseF [40, 97, 32, 97, 110, 100, 32, 40, 98, 32, 111, 114, 32, 99, 40, 120, 41, 32, 62, 61, 32, 49, 41, 32, 41] = (.mk 2 [] 0 [] [.mk 1 [97] 0 [] [], .mk 3 [] 0 [] [.mk 1 [98] 0 [] [], .mk 1 [99, 40, 120, 41] 6 [49] []]], 0) := by kernel_rfl
theorem awake_odd : parseF [97, 32, 98] = (.mk 0 [] 0 [] [], 50) := by kernel_rfl
theorem awake_text : textN (.mk 2 [] 0 [] [.mk 1 [97] 0 [] [], .mk 3 [] 0 [] [.mk 1 [98] 0 [] [], .mk 1 [99, 40, 120, 41] 6 [49] []]]) = [40, 97, 32, 97, 110, 100, 32, 40, 98, 32, 111, 114, 32, 99, 40, 120, 41, 32, 62, 61, 32, 49, 41, 41] := by kernel_rfl
theorem awake_check : checkE (.mk 2 [] 0 [] [.mk 1 [97] 0 [] [], .mk 3 [] 0 [] [.mk 1 [98] 0 [] [], .mk 1 [99, 40, 120, 41] 6 [49] []]]) = 0 := by kernel_rfl
set_option maxHeartbeats 400000 in
set_option maxRecDepth 100000 in
theorem awake_any (w : World) :
  Calls Tryz.prog 4 #[] w (Ret fun v w' => v = .bool true ∧ Below w.heap.size w w') := by
 refine calls_W Tryz.func4 rfl Tryz.ntmps4 ?_
 refine W_seq ?_
 refine W_reg ?_
 refine WO_pure (v := (.bool false)) rfl rfl ?_
 refine WO_nil ?_
 refine W_seq ?_
 refine W_reg ?_
 refine WO_call rfl (by exact en_14) (parse_is awake_parse _ (by decide)) ?_
 rintro _ wp1 ⟨⟨sv1, css1, rfl, rx1, ax1⟩, bp1⟩
 have z_wp1 := bp1.size
 refine WO_pure rfl rfl ?_
 refine WO_pure (v := (.agg #[(.int .i64 2), (S []), (.int .i64 0), (S []), sv1])) rfl rfl ?_
 refine WO_pure (v := (.int .i64 0)) rfl rfl ?_
 refine WO_alloc (v := (.agg #[(.int .i64 0), (S []), (.int .i64 0), (S []), (.slice none 0 0)])) rfl (fun _ => by kernel_rfl) (fun w1 n1 => ?_)
 have e1 : w1.heap[wp1.heap.size]? = some (.cells #[(.int .i64 0), (S []), (.int .i64 0), (S []), (.slice none 0 0)] 24 (0, 0)) := n1.here
 have z1 := n1.size
 have p2 := e1
 refine WO_storerow (b := wp1.heap.size) (o := 0) (c' := #[(.int .i64 2), (S []), (.int .i64 0), (S []), sv1]) rfl rfl rfl (fun _ => by kernel_rfl) (by rw [Array.all_eq_true_iff_forall_mem]; intro v hv; simp only [List.mem_toArray, List.mem_cons, List.not_mem_nil, or_false] at hv; rcases hv with hv | hv | hv | hv | hv <;> (rw [hv]; first | rfl | exact oneCell_is (rx1.ext n1.ext))) p2 (by simp) (fun w2 u2 => ?_)
 have e2 : w2.heap[wp1.heap.size]? = some (.cells #[(.int .i64 2), (S []), (.int .i64 0), (S []), sv1] 24 (0, 0)) := u2.here
 have z2 := u2.size
 refine WO_pure (v := (.int .i64 0)) rfl rfl ?_
 refine WO_nil ?_
 refine W_seq ?_
 refine W_reg ?_
 refine WO_loadrow (b := wp1.heap.size) (o := 0) (m := 5) (c := #[(.int .i64 2), (S []), (.int .i64 0), (S []), sv1]) rfl rfl Tryz.underlying24 rfl (fun _ => by kernel_rfl) e2 (by simp) ?_
 refine WO_eq 12 (v' := (.agg #[(.int .i64 2), (S []), (.int .i64 0), (S []), sv1])) rfl rfl ?_
 refine WO_call rfl (by exact en_6) (Print_ok (.mk 2 [] 0 [] [.mk 1 [97] 0 [] [], .mk 3 [] 0 [] [.mk 1 [98] 0 [] [], .mk 1 [99, 40, 120, 41] 6 [49] []]]) _ (DepC.ext (u2.below (n1.below (Below.refl wp1.heap.size wp1) (Below.refl wp1.heap.size wp1).size) (by omega)) _ _ (depC_mk rx1 ax1)) (by decide) awake_check) ?_
 rintro _ wr ⟨rfl, br⟩
 rw [awake_text]
 have z_wr := br.size
 refine WO_pure rfl rfl ?_
 refine WO_pure (v := (S ([40, 97, 32, 97, 110, 100, 32, 40, 98, 32, 111, 114, 32, 99, 40, 120, 41, 32, 62, 61, 32, 49, 41, 41]))) rfl rfl ?_
 refine WO_pure (v := (.int .i64 0)) rfl rfl ?_
 refine WO_pure (v := (S ([40, 97, 32, 97, 110, 100, 32, 40, 98, 32, 111, 114, 32, 99, 40, 120, 41, 32, 62, 61, 32, 49, 41, 41]))) rfl rfl ?_
 refine WO_pure (v := (.int .i64 0)) rfl rfl ?_
 refine WO_nil ?_
 refine W_seq ?_
 refine W_reg ?_
 refine WO_call rfl (by exact en_14) (parse_is awake_odd _ (by decide)) ?_
 rintro _ wp2 ⟨⟨sv2, css2, rfl, rx2, ax2⟩, bp2⟩
 have z_wp2 := bp2.size
 refine WO_pure rfl rfl ?_
 refine WO_pure (v := (.agg #[(.int .i64 0), (S []), (.int .i64 0), (S []), sv2])) rfl rfl ?_
 refine WO_pure (v := (.int .i64 50)) rfl rfl ?_
 refine WO_alloc (v := (.agg #[(.int .i64 0), (S []), (.int .i64 0), (S []), (.slice none 0 0)])) rfl (fun _ => by kernel_rfl) (fun w3 n3 => ?_)
 have e3 : w3.heap[wp2.heap.size]? = some (.cells #[(.int .i64 0), (S []), (.int .i64 0), (S []), (.slice none 0 0)] 24 (0, 0)) := n3.here
 have z3 := n3.size
 have p4 := e3
 refine WO_storerow (b := wp2.heap.size) (o := 0) (c' := #[(.int .i64 0), (S []), (.int .i64 0), (S []), sv2]) rfl rfl rfl (fun _ => by kernel_rfl) (by rw [Array.all_eq_true_iff_forall_mem]; intro v hv; simp only [List.mem_toArray, List.mem_cons, List.not_mem_nil, or_false] at hv; rcases hv with hv | hv | hv | hv | hv <;> (rw [hv]; first | rfl | exact oneCell_is (rx2.ext n3.ext))) p4 (by simp) (fun w4 u4 => ?_)
 have e4 : w4.heap[wp2.heap.size]? = some (.cells #[(.int .i64 0), (S []), (.int .i64 0), (S []), sv2] 24 (0, 0)) := u4.here
 have z4 := u4.size
 refine WO_pure (v := (.int .i64 50)) rfl rfl ?_
 refine WO_nil ?_
 refine W_cut (fun σ' w' => w4 = w' ∧ σ' 0 = (.bool ((decide ([40, 97, 32, 97, 110, 100, 32, 40, 98, 32, 111, 114, 32, 99, 40, 120, 41, 32, 62, 61, 32, 49, 41, 41] = [40, 97, 32, 97, 110, 100, 32, 40, 98, 32, 111, 114, 32, 99, 40, 120, 41, 32, 62, 61, 32, 49, 41, 41])) || false))) ?_ ?_
 ·refine W_reg ?_
  refine WO_pure (v := (.int .i64 0)) rfl rfl ?_
  refine WO_pure (v := (.bool true)) rfl rfl ?_
  refine WO_pure (v := (.bool true)) rfl rfl ?_
  refine WO_pure (v := (.int .i64 0)) rfl rfl ?_
  refine WO_pure (v := (.bool true)) rfl rfl ?_
  refine WO_pure (v := (.bool true)) rfl rfl ?_
  refine WO_pure (v := (.bool true)) rfl rfl ?_
  refine WO_pure (v := (S ([40, 97, 32, 97, 110, 100, 32, 40, 98, 32, 111, 114, 32, 99, 40, 120, 41, 32, 62, 61, 32, 49, 41, 41]))) rfl rfl ?_
  refine WO_seql (l1 := [40, 97, 32, 97, 110, 100, 32, 40, 98, 32, 111, 114, 32, 99, 40, 120, 41, 32, 62, 61, 32, 49, 41, 41]) (l2 := [40, 97, 32, 97, 110, 100, 32, 40, 98, 32, 111, 114, 32, 99, 40, 120, 41, 32, 62, 61, 32, 49, 41, 41]) rfl rfl rfl ?_
  refine WO_pure (v := (.bool (decide ([40, 97, 32, 97, 110, 100, 32, 40, 98, 32, 111, 114, 32, 99, 40, 120, 41, 32, 62, 61, 32, 49, 41, 41] = [40, 97, 32, 97, 110, 100, 32, 40, 98, 32, 111, 114, 32, 99, 40, 120, 41, 32, 62, 61, 32, 49, 41, 41])))) rfl rfl ?_
  refine WO_pure (v := (.bool (decide ([40, 97, 32, 97, 110, 100, 32, 40, 98, 32, 111, 114, 32, 99, 40, 120, 41, 32, 62, 61, 32, 49, 41, 41] = [40, 97, 32, 97, 110, 100, 32, 40, 98, 32, 111, 114, 32, 99, 40, 120, 41, 32, 62, 61, 32, 49, 41, 41])))) rfl rfl ?_
  refine WO_splitp 30 (p := [40, 97, 32, 97, 110, 100, 32, 40, 98, 32, 111, 114, 32, 99, 40, 120, 41, 32, 62, 61, 32, 49, 41, 41] = [40, 97, 32, 97, 110, 100, 32, 40, 98, 32, 111, 114, 32, 99, 40, 120, 41, 32, 62, 61, 32, 49, 41, 41]) (by exact rfl) (fun c1 => ?_) (fun c1 => ?_)
  ·refine WO_pure (v := (.int .i64 50)) rfl rfl ?_
   refine WO_pure (v := (.bool true)) rfl rfl ?_
   refine WO_pure (v := (.bool true)) rfl rfl ?_
   refine WO_pure (v := (.bool true)) rfl rfl ?_
   refine WO_nil ?_
   exact ⟨rfl, (by show ((.bool true) : Value) = (.bool ((decide ([40, 97, 32, 97, 110, 100, 32, 40, 98, 32, 111, 114, 32, 99, 40, 120, 41, 32, 62, 61, 32, 49, 41, 41] = [40, 97, 32, 97, 110, 100, 32, 40, 98, 32, 111, 114, 32, 99, 40, 120, 41, 32, 62, 61, 32, 49, 41, 41])) || false)); first | (simp [c1]; done) | (simp [c1]; omega) | (simp_all; done) | (simp_all; omega))⟩
  ·refine WO_pass rfl ?_
   refine WO_pass rfl ?_
   refine WO_pure (v := (.bool false)) rfl rfl ?_
   refine WO_pure (v := (.bool false)) rfl rfl ?_
   refine WO_nil ?_
   exact ⟨rfl, (by show ((.bool false) : Value) = (.bool ((decide ([40, 97, 32, 97, 110, 100, 32, 40, 98, 32, 111, 114, 32, 99, 40, 120, 41, 32, 62, 61, 32, 49, 41, 41] = [40, 97, 32, 97, 110, 100, 32, 40, 98, 32, 111, 114, 32, 99, 40, 120, 41, 32, 62, 61, 32, 49, 41, 41])) || false)); first | (simp [c1]; done) | (simp [c1]; omega) | (simp_all; done) | (simp_all; omega))⟩
 ·rintro σ1 _ ⟨rfl, h1_0⟩
  refine W_anchor (d := 0) h1_0 (?_)
  refine W_ret ?_
  refine body_ret1 rfl (v0 := (.bool ((decide ([40, 97, 32, 97, 110, 100, 32, 40, 98, 32, 111, 114, 32, 99, 40, 120, 41, 32, 62, 61, 32, 49, 41, 41] = [40, 97, 32, 97, 110, 100, 32, 40, 98, 32, 111, 114, 32, 99, 40, 120, 41, 32, 62, 61, 32, 49, 41, 41])) || false))) rfl ?_
  have hbel := (u4.below (n3.below (below_ext (below_ext (u2.below (n1.below (below_ext (Below.refl w.heap.size w) bp1) (below_ext (Below.refl w.heap.size w) bp1).size) (by omega)) br) bp2) (below_ext (below_ext (u2.below (n1.below (below_ext (Below.refl w.heap.size w) bp1) (below_ext (Below.refl w.heap.size w) bp1).size) (by omega)) br) bp2).size) (by omega))
  exact ⟨rfl, hbel⟩
end Go.Proofs.YtaegacblpbbndaaGreatDoor
end
section
namespace Go.Proofs.YtaegacblpbbndaaGreatDoor
open Go Go.RowKit
section
variable {H : Type} {enc : TypeId × Value → H} {P : Program} {W : World}
def Two {α β : Type} (R : α → β → Prop) : List α → List β → Prop
  | [], [] => True
  | a :: l, b :: m => R a b ∧ Two R l m
  | _, _ => False
theorem Two.len {α β : Type} {R : α → β → Prop} : ∀ {l : List α} {m : List β}, Two R l m → m.length = l.length
  | [], [], _ => rfl
  | _ :: _, _ :: _, h => by simp only [List.length_cons, Two.len h.2]
theorem addr_spot {w : World} {a : Addr} {v : Value} (h : w.cell? a = some v) : a.spot = none := by
  unfold World.cell? at h
  cases hs : a.spot with
  | none => rfl
  | some k => rw [hs] at h; split at h <;> simp at h
theorem open_elems {α : Type} {e : TypeId} {sz n : Nat} {a : Addr} (hc : P.cellsOf e = sz) {Q : α → List Value → Prop} {size : α → Nat}
    (each : ∀ cs' y, cs'.length = sz → DataW.trod enc P W 0 (fun _ => true) true n e cs' = some y → ∃ x, Q x cs' ∧ size x ≤ Rows.uptoBulk y.1) :
    ∀ (elems : List (DataW H × List MemPlace)) (i : Nat), (∀ j, j < elems.length → (W.cells? 0 (a.add ((i + j) * sz)) sz).bind (DataW.trod enc P W 0 (fun _ => true) true n e) = elems[j]?) →
      ∃ (l : List α) (css : List (List Value)), l.length = elems.length ∧ Two Q l css ∧ (l.map size).sum ≤ Rows.uptoBulkAll (elems.map (·.1)) ∧ (∀ c ∈ css, c.length = sz) ∧
        ∀ j u, css.flatten[j]? = some u → W.cell? (a.add (i * sz + j)) = some u
  | [], i, _ => ⟨[], [], rfl, trivial, by simp, by simp, by simp⟩
  | y :: r, i, h => by
    have h0 := h 0 (by simp)
    simp only [Nat.add_zero, List.getElem?_cons_zero] at h0
    obtain ⟨cs', h1, h2⟩ := Option.bind_eq_some_iff.1 h0
    obtain ⟨_, hl, hcs⟩ := World.cells?_some h1
    obtain ⟨x, hx, hs⟩ := each cs' y hl h2
    obtain ⟨l, css, e1, e2, e3, e4, e5⟩ := open_elems hc each r (i + 1) (fun j hj => by
      have := h (j + 1) (by simpa using hj)
      rw [show i + (j + 1) = i + 1 + j by omega] at this
      simpa using this)
    refine ⟨x :: l, cs' :: css, by simp [e1], ⟨hx, e2⟩, ?_, ?_, ?_⟩
    · simp only [List.map_cons, List.sum_cons, Rows.uptoBulkAll]; omega
    · intro c hc'; rcases List.mem_cons.1 hc' with rfl | hc'
      · exact hl
      · exact e4 c hc'
    · intro j u hu
      rw [List.flatten_cons] at hu
      by_cases hj : j < sz
      · rw [List.getElem?_append_left (by omega)] at hu
        have := hcs j hj
        rw [hu] at this
        rw [← this]
        congr 1
        show a.add (i * sz + j) = (a.add (i * sz)).add j
        unfold Addr.add
        by_cases h1 : i * sz = 0 <;> by_cases h2 : j = 0 <;> simp [h1, h2, Nat.add_assoc]
      · rw [List.getElem?_append_right (by omega), hl] at hu
        have := e5 (j - sz) u hu
        rw [← this]; congr 2
        have : (i + 1) * sz = i * sz + sz := by rw [Nat.add_mul, Nat.one_mul]
        omega
theorem open_list {α : Type} {t e : TypeId} {sz fuel : Nat} {cs : List Value} {y : DataW H × List MemPlace} (ht : P.underlying t = some (.slice e)) (hc : P.cellsOf e = sz) (hsz : 0 < sz) {Q : α → List Value → Prop} {size : α → Nat}
    (each : ∀ n cs' y, n < fuel → cs'.length = sz → DataW.trod enc P W 0 (fun _ => true) true n e cs' = some y → ∃ x, Q x cs' ∧ size x ≤ Rows.uptoBulk y.1) (h : DataW.trod enc P W 0 (fun _ => true) true fuel t cs = some y) :
    ∃ (v : Value) (l : List α) (css : List (List Value)), cs = [v] ∧ RowIs W v l.length sz css.flatten ∧ Two Q l css ∧ (∀ c ∈ css, c.length = sz) ∧ (l.map size).sum + 1 ≤ Rows.uptoBulk y.1 := by
  rcases DataW.trod_slice ht h with ⟨rfl, rfl⟩ | ⟨a, len, cap, elems, rest, n, hf, rfl, rfl, _, _, _, hlen, hel, _, _⟩
  · exact ⟨_, [], [], rfl, ⟨by simp, .inl ⟨rfl, _, _, rfl⟩⟩, trivial, by simp, by simp [Rows.uptoBulk]⟩
  · subst hc
    obtain ⟨l, css, e1, e2, e3, e4, e5⟩ := open_elems (a := a) rfl (each n · · (by omega)) elems 0 (fun j hj => by rw [Nat.zero_add]; exact hel j (by omega))
    have hfl : css.flatten.length = l.length * P.cellsOf e := by
      rw [← e2.len, List.length_flatten]
      clear e5 e2 e1
      induction css with
      | nil => simp
      | cons c r ih => simp only [List.map_cons, List.sum_cons, List.length_cons]; rw [ih (fun c hc => e4 c (by simp [hc])), e4 c (by simp), Nat.add_mul]; omega
    refine ⟨_, l, css, rfl, ⟨hfl, ?_⟩, e2, e4, by simp only [Rows.uptoBulk]; omega⟩
    by_cases hn : l.length = 0
    · exact .inl ⟨hn, some a, cap, by rw [← hlen, ← e1, hn]⟩
    · right
      have hp : 0 < css.flatten.length := by rw [hfl]; exact Nat.mul_pos (by omega) hsz
      have hsp := addr_spot (a := a) (by have := e5 0 _ (List.getElem?_eq_getElem hp); rw [Nat.zero_mul] at this; exact this)
      obtain ⟨b, o, sp⟩ := a
      simp only at hsp; subst hsp
      refine ⟨b, o, cap, by rw [← hlen, ← e1], fun j u hu => ?_⟩
      have := e5 j u hu
      rw [Nat.zero_mul, Nat.zero_add] at this
      rw [← this]; congr 1
      unfold Addr.add; split <;> simp_all
end
section
variable {H : Type} {enc : TypeId × Value → H} {W : World}
theorem S_of (s : ByteArray) : Value.string s = S s.data.toList := by simp [S]
theorem argsSize_sum (l : List DepT) : (l.map DepT.size).sum = argsSize l := by
  induction l with
  | nil => rfl
  | cons d r ih => simp only [List.map_cons, List.sum_cons, argsSize, ih]
end
end Go.Proofs.YtaegacblpbbndaaGreatDoor
end
section
namespace Go.Proofs.YtaegacblpbbndaaGreatDoor
open Go Go.RowKit
set_option linter.unusedSimpArgs false
set_option linter.unusedVariables false
namespace Sv
inductive AV where
  | bool (b : Bool)
  | int (k : IntKind) (n : Int)
  | str (l : List UInt8)
  | ptr (b off : Nat)
  | nilp
  | sl (b off len cap : Nat) (op : Bool)
  | nils
  | sle
  | map (b : Nat)
  | nilm
  | fn (f : Nat) (first cap : List AV)
  | nilf
  | ifc (t : Nat) (v : AV)
  | nili
  | agg (l : List AV)
  | tup (l : List AV)
  | raw (v : Value)
  | row (sz n : Nat) (g : Nat → AV)
  | fp (a : AV)
  | own (b : Nat)
  | cond (q : Bool) (a : AV)
structure Phi where
  m : Nat → Option (Nat × Nat)
  s : Nat → Option Value
  f : Nat → Option Obj
instance : CoeFun Phi (fun _ => Nat → Option (Nat × Nat)) := ⟨Phi.m⟩
structure Phi.le (φ φ' : Phi) : Prop where
  m : ∀ b x, φ b = some x → φ' b = some x
  s : ∀ b x, φ.s b = some x → φ'.s b = some x
  f : ∀ b x, φ.f b = some x → φ'.f b = some x
theorem Phi.le_refl (φ : Phi) : φ.le φ := ⟨fun _ _ h => h, fun _ _ h => h, fun _ _ h => h⟩
theorem Phi.le_trans {a b c : Phi} (h : a.le b) (k : b.le c) : a.le c := ⟨fun x y e => k.m x y (h.m x y e), fun x y e => k.s x y (h.s x y e), fun x y e => k.f x y (h.f x y e)⟩
def LieAt (f : Nat → Option Obj) (b o : Nat) (us : List Value) : Prop := ∃ cs e fr, f b = some (.cells cs e fr) ∧ ∀ j u, us[j]? = some u → cs[o + j]? = some u ∧ u.oneCell' = true
theorem LieAt.mono {φ φ' : Phi} (h : φ.le φ') {b o : Nat} {us : List Value} (k : LieAt φ.f b o us) : LieAt φ'.f b o us := by
  obtain ⟨cs, e, fr, h1, h2⟩ := k; exact ⟨cs, e, fr, h.f _ _ h1, h2⟩
def RowAt (f : Nat → Option Obj) (sz n : Nat) (u : Nat → Value) (v : Value) : Prop :=
  (n = 0 ∧ (v = .slice none 0 0 ∨ ∃ a c, v = .slice (some a) 0 c)) ∨ ∃ b o c, v = .slice (some ⟨b, o, none⟩) n c ∧ n ≤ c ∧ ∀ i, i < n → (u i).cells.size = sz ∧ LieAt f b (o + i * sz) (u i).cells.toList
theorem RowAt.mono {φ φ' : Phi} (h : φ.le φ') {sz n : Nat} {u : Nat → Value} {v : Value} (k : RowAt φ.f sz n u v) : RowAt φ'.f sz n u v := by
  rcases k with k | ⟨b, o, c, rfl, k0, k⟩
  · exact .inl k
  · exact .inr ⟨b, o, c, rfl, k0, fun i hi => ⟨(k i hi).1, (k i hi).2.mono h⟩⟩
def Phi.fz (φ : Phi) : Phi := ⟨fun _ => none, fun _ => none, φ.f⟩
theorem Phi.fz_le {φ φ' : Phi} (h : φ.le φ') : φ.fz.le φ'.fz := ⟨fun _ _ e => (by cases e), fun _ _ e => (by cases e), h.f⟩
theorem Phi.le_fz (φ : Phi) : φ.fz.le φ := ⟨fun _ _ e => (by cases e), fun _ _ e => (by cases e), fun _ _ e => e⟩
mutual
def VR : Phi → AV → Value → Prop
  | φ, .bool b, v => v = .bool b
  | φ, .int k n, v => v = .int k n
  | φ, .str l, v => v = .string ⟨l.toArray⟩
  | φ, .ptr b o, v => ∃ x κ, φ b = some (x, κ) ∧ v = .pointer (some ⟨x, o, none⟩)
  | φ, .nilp, v => v = .pointer none
  | φ, .sl b o len cap op, v => ∃ x κ, φ b = some (x, κ) ∧ ((op = true ∧ cap + len ≤ κ ∧ v = .slice (some ⟨x, o, none⟩) len (κ - cap)) ∨ (op = false ∧ v = .slice (some ⟨x, o, none⟩) len cap))
  | φ, .nils, v => v = .slice none 0 0
  | φ, .sle, v => ∃ a c, v = .slice (some a) 0 c
  | φ, .map b, v => ∃ x κ, φ b = some (x, κ) ∧ v = .map (some x)
  | φ, .nilm, v => v = .map none
  | φ, .fn f first cap, v => ∃ vf vc, VRl φ first vf ∧ VRl φ cap vc ∧ v = .func (.func f) vf.toArray vc.toArray
  | φ, .nilf, v => v = .nilFunc
  | φ, .ifc t a, v => ∃ u, VR φ a u ∧ v = .iface t u
  | φ, .nili, v => v = .nilIface
  | φ, .agg l, v => ∃ vs, VRl φ l vs ∧ v = .agg vs.toArray
  | φ, .tup l, v => ∃ vs, VRl φ l vs ∧ v = .tuple vs.toArray
  | φ, .raw u, v => v = u
  | φ, .row sz n g, v => ∃ u : Nat → Value, (∀ i, i < n → VR φ.fz (g i) (u i)) ∧ RowAt φ.f sz n u v
  | φ, .fp a, v => ∃ b o u, v = .pointer (some ⟨b, o, none⟩) ∧ VR φ.fz a u ∧ LieAt φ.f b o u.cells.toList
  | φ, .own b, v => φ.s b = some v ∧ ∃ a n c, v = .slice a n c
  | φ, .cond q a, v => q = true → VR φ a v
def VRl : Phi → List AV → List Value → Prop
  | φ, [], vs => vs = []
  | φ, a :: l, vs => ∃ v vs', vs = v :: vs' ∧ VR φ a v ∧ VRl φ l vs'
end
mutual
theorem VR.mono' : ∀ {a : AV} {φ φ' : Phi} {v : Value}, φ.le φ' → VR φ a v → VR φ' a v
  | .bool _, φ, φ', _, h, k => k
  | .int _ _, φ, φ', _, h, k => k
  | .str _, φ, φ', _, h, k => k
  | .ptr _ _, φ, φ', _, h, k => by
    simp only [VR] at k ⊢
    obtain ⟨x, κ, e, r⟩ := k; exact ⟨x, κ, h.m _ _ e, r⟩
  | .nilp, φ, φ', _, h, k => k
  | .sl _ _ _ _ _, φ, φ', _, h, k => by
    simp only [VR] at k ⊢
    obtain ⟨x, κ, e, r⟩ := k; exact ⟨x, κ, h.m _ _ e, r⟩
  | .nils, φ, φ', _, h, k => k
  | .sle, φ, φ', _, h, k => k
  | .map _, φ, φ', _, h, k => by
    simp only [VR] at k ⊢
    obtain ⟨x, κ, e, r⟩ := k; exact ⟨x, κ, h.m _ _ e, r⟩
  | .nilm, φ, φ', _, h, k => k
  | .fn _ _ _, φ, φ', _, h, k => by
    simp only [VR] at k ⊢
    obtain ⟨a, b, e1, e2, r⟩ := k; exact ⟨a, b, VRl.mono' h e1, VRl.mono' h e2, r⟩
  | .nilf, φ, φ', _, h, k => k
  | .ifc _ _, φ, φ', _, h, k => by
    simp only [VR] at k ⊢
    obtain ⟨u, e, r⟩ := k; exact ⟨u, VR.mono' h e, r⟩
  | .nili, φ, φ', _, h, k => k
  | .agg _, φ, φ', _, h, k => by
    simp only [VR] at k ⊢
    obtain ⟨u, e, r⟩ := k; exact ⟨u, VRl.mono' h e, r⟩
  | .tup _, φ, φ', _, h, k => by
    simp only [VR] at k ⊢
    obtain ⟨u, e, r⟩ := k; exact ⟨u, VRl.mono' h e, r⟩
  | .raw _, φ, φ', _, h, k => k
  | .row sz n g, φ, φ', _, h, k => by
    simp only [VR] at k ⊢
    obtain ⟨u, k1, k2⟩ := k; exact ⟨u, fun i hi => VR.mono' (Phi.fz_le h) (k1 i hi), k2.mono h⟩
  | .fp a, φ, φ', _, h, k => by
    simp only [VR] at k ⊢
    obtain ⟨b, o, u, e, k1, k2⟩ := k; exact ⟨b, o, u, e, VR.mono' (Phi.fz_le h) k1, k2.mono h⟩
  | .own b, φ, φ', _, h, k => by
    simp only [VR] at k ⊢
    exact ⟨h.s _ _ k.1, k.2⟩
  | .cond q a, φ, φ', _, h, k => by
    simp only [VR] at k ⊢
    exact fun hq => VR.mono' h (k hq)
theorem VRl.mono' : ∀ {l : List AV} {φ φ' : Phi} {vs : List Value}, φ.le φ' → VRl φ l vs → VRl φ' l vs
  | [], φ, φ', _, h, k => k
  | _ :: _, φ, φ', _, h, k => by
    simp only [VRl] at k ⊢
    obtain ⟨v, vs', e, e1, e2⟩ := k; exact ⟨v, vs', e, VR.mono' h e1, VRl.mono' h e2⟩
end
theorem VR.mono {φ φ' : Phi} (h : φ.le φ') {a : AV} {v : Value} (k : VR φ a v) : VR φ' a v := VR.mono' h k
theorem VRl.mono {φ φ' : Phi} (h : φ.le φ') {l : List AV} {vs : List Value} (k : VRl φ l vs) : VRl φ' l vs := VRl.mono' h k
section
variable {φ : Phi}
theorem VR.ofBool (q : Bool) : VR φ (.bool q) (.bool q) := by simp [VR]
theorem VR.ofStr (l : List UInt8) : VR φ (.str l) (.string ⟨l.toArray⟩) := by simp [VR]
theorem VRl.nil : VRl φ [] [] := by simp [VRl]
theorem VRl.cons {a : AV} {v : Value} {l : List AV} {vs : List Value} (h : VR φ a v) (k : VRl φ l vs) : VRl φ (a :: l) (v :: vs) := by
  simp only [VRl]; exact ⟨v, vs, rfl, h, k⟩
theorem VRl.cons_inv {a : AV} {l : List AV} {vs : List Value} (h : VRl φ (a :: l) vs) : ∃ v vs', vs = v :: vs' ∧ VR φ a v ∧ VRl φ l vs' := by
  simpa only [VRl] using h
theorem VRl.nil_inv {vs : List Value} (h : VRl φ [] vs) : vs = [] := by simpa only [VRl] using h
theorem VRl.length : ∀ {l : List AV} {vs : List Value}, VRl φ l vs → vs.length = l.length
  | [], _, h => by rw [h.nil_inv]; rfl
  | _ :: _, _, h => by obtain ⟨v, vs', rfl, _, k⟩ := h.cons_inv; simp [VRl.length k]
theorem VRl.append : ∀ {l l' : List AV} {vs vs' : List Value}, VRl φ l vs → VRl φ l' vs' → VRl φ (l ++ l') (vs ++ vs')
  | [], _, _, _, h, k => by rw [h.nil_inv]; exact k
  | _ :: _, _, _, _, h, k => by obtain ⟨v, vs', rfl, h1, h2⟩ := h.cons_inv; exact .cons h1 (VRl.append h2 k)
theorem VRl.take : ∀ {l : List AV} {vs : List Value} (n : Nat), VRl φ l vs → VRl φ (l.take n) (vs.take n)
  | _, _, 0, _ => by simp only [List.take_zero]; exact .nil
  | [], _, n + 1, h => by rw [h.nil_inv]; simp only [List.take_nil]; exact .nil
  | _ :: _, _, n + 1, h => by obtain ⟨v, vs', rfl, h1, h2⟩ := h.cons_inv; simp only [List.take_succ_cons]; exact .cons h1 (VRl.take n h2)
theorem VRl.drop : ∀ {l : List AV} {vs : List Value} (n : Nat), VRl φ l vs → VRl φ (l.drop n) (vs.drop n)
  | _, _, 0, h => by simpa only [List.drop_zero] using h
  | [], _, n + 1, h => by rw [h.nil_inv]; simp only [List.drop_nil]; exact .nil
  | _ :: _, _, n + 1, h => by obtain ⟨v, vs', rfl, h1, h2⟩ := h.cons_inv; simp only [List.drop_succ_cons]; exact VRl.drop n h2
theorem VRl.get : ∀ {l : List AV} {vs : List Value} {i : Nat} {a : AV}, VRl φ l vs → l[i]? = some a → ∃ v, vs[i]? = some v ∧ VR φ a v
  | [], _, _, _, _, e => by simp at e
  | _ :: _, _, 0, _, h, e => by obtain ⟨v, vs', rfl, h1, _⟩ := h.cons_inv; simp at e; subst e; exact ⟨v, by simp, h1⟩
  | _ :: _, _, i + 1, _, h, e => by obtain ⟨v, vs', rfl, _, h2⟩ := h.cons_inv; simp only [List.getElem?_cons_succ] at e ⊢; exact VRl.get h2 e
theorem VRl.single {a : AV} {v : Value} (h : VR φ a v) : VRl φ [a] [v] := .cons h .nil
end
noncomputable def one : AV → Bool
  | .agg _ => false
  | .tup _ => false
  | .raw (.agg _) => false
  | .raw (.tuple _) => false
  | .cond _ _ => false
  | _ => true
noncomputable def ones : List AV → Bool
  | [] => true
  | a :: l => one a && ones l
theorem VR.one {φ : Phi} : ∀ {a : AV} {v : Value}, VR φ a v → Sv.one a = true → v.oneCell' = true ∧ v.cells = #[v] := by
  intro a v h h1
  cases a <;> simp only [VR] at h <;> (try simp only [Sv.one, Bool.false_eq_true] at h1)
  case raw u =>
    subst h
    cases v <;> first | exact ⟨rfl, rfl⟩ | simp [Sv.one] at h1
  case ptr => obtain ⟨x, κ, _, rfl⟩ := h; exact ⟨rfl, rfl⟩
  case row => obtain ⟨u, _, ⟨_, rfl | ⟨a, c, rfl⟩⟩ | ⟨b, o, c, rfl, _⟩⟩ := h <;> exact ⟨rfl, rfl⟩
  case fp => obtain ⟨b, o, u, rfl, _⟩ := h; exact ⟨rfl, rfl⟩
  case own => obtain ⟨_, a, n, c, rfl⟩ := h; exact ⟨rfl, rfl⟩
  case sl => obtain ⟨x, κ, _, ⟨_, _, rfl⟩ | ⟨_, rfl⟩⟩ := h <;> exact ⟨rfl, rfl⟩
  case map => obtain ⟨x, κ, _, rfl⟩ := h; exact ⟨rfl, rfl⟩
  case sle => obtain ⟨x, κ, rfl⟩ := h; exact ⟨rfl, rfl⟩
  case fn => obtain ⟨x, κ, _, _, rfl⟩ := h; exact ⟨rfl, rfl⟩
  case ifc => obtain ⟨x, _, rfl⟩ := h; exact ⟨rfl, rfl⟩
  all_goals (subst h; exact ⟨rfl, rfl⟩)
theorem VRl.ones {φ : Phi} : ∀ {l : List AV} {vs : List Value}, VRl φ l vs → Sv.ones l = true → ∀ v ∈ vs, v.oneCell' = true
  | [], _, h, _ => by rw [h.nil_inv]; simp
  | a :: l, _, h, k => by
    obtain ⟨v, vs', rfl, h1, h2⟩ := h.cons_inv
    simp only [Sv.ones, Bool.and_eq_true] at k
    intro u hu
    rcases List.mem_cons.1 hu with rfl | hu
    · exact (h1.one k.1).1
    · exact VRl.ones h2 k.2 u hu
noncomputable def cellsOf : AV → List AV
  | .agg l => l
  | a => [a]
noncomputable def aggd : AV → Bool
  | .raw (.agg _) => true
  | .cond _ _ => true
  | _ => false
theorem VR.cells {φ : Phi} {a : AV} {v : Value} (h : VR φ a v) (hr : aggd a = false) : VRl φ (cellsOf a) v.cells.toList := by
  by_cases h1 : Sv.one a = true
  · have : cellsOf a = [a] := by cases a <;> first | rfl | simp [Sv.one] at h1
    rw [this, (h.one h1).2]; exact .single h
  · cases a <;> simp only [Sv.one, not_true_eq_false] at h1
    case agg l => simp only [VR] at h; obtain ⟨vs, h, rfl⟩ := h; simpa [cellsOf, Value.cells] using h
    case tup l =>
      have h' := h
      simp only [VR] at h; obtain ⟨vs, _, rfl⟩ := h; exact .single h'
    case raw u =>
      have h' := h
      simp only [VR] at h; subst h
      cases v <;> simp [Sv.one, aggd] at h1 hr
      exact .single h'
    case cond => simp [aggd] at hr
mutual
noncomputable def frz : AV → Bool
  | .ptr _ _ => false
  | .sl _ _ _ _ _ => false
  | .map _ => false
  | .own _ => false
  | .fn _ first cap => frzl first && frzl cap
  | .ifc _ a => frz a
  | .agg l => frzl l
  | .tup l => frzl l
  | .cond _ a => frz a
  | _ => true
noncomputable def frzl : List AV → Bool
  | [] => true
  | a :: l => frz a && frzl l
end
mutual
theorem VR.fz : ∀ {a : AV} {φ : Phi} {v : Value}, VR φ a v → frz a = true → VR φ.fz a v
  | .bool _, _, _, k, _ => k
  | .int _ _, _, _, k, _ => k
  | .str _, _, _, k, _ => k
  | .ptr _ _, _, _, k, h => by cases h
  | .nilp, _, _, k, _ => k
  | .sl _ _ _ _ _, _, _, k, h => by cases h
  | .nils, _, _, k, _ => k
  | .sle, _, _, k, _ => k
  | .map _, _, _, k, h => by cases h
  | .nilm, _, _, k, _ => k
  | .fn _ _ _, φ, _, k, h => by
    simp only [VR] at k ⊢
    simp only [frz, Bool.and_eq_true] at h
    obtain ⟨a, b, e1, e2, r⟩ := k; exact ⟨a, b, VRl.fz e1 h.1, VRl.fz e2 h.2, r⟩
  | .nilf, _, _, k, _ => k
  | .ifc _ _, φ, _, k, h => by
    simp only [VR] at k ⊢
    simp only [frz] at h
    obtain ⟨u, e, r⟩ := k; exact ⟨u, VR.fz e h, r⟩
  | .nili, _, _, k, _ => k
  | .agg _, φ, _, k, h => by
    simp only [VR] at k ⊢
    simp only [frz] at h
    obtain ⟨u, e, r⟩ := k; exact ⟨u, VRl.fz e h, r⟩
  | .tup _, φ, _, k, h => by
    simp only [VR] at k ⊢
    simp only [frz] at h
    obtain ⟨u, e, r⟩ := k; exact ⟨u, VRl.fz e h, r⟩
  | .raw _, _, _, k, _ => k
  | .row _ _ _, φ, _, k, _ => by simp only [VR] at k ⊢; exact k
  | .fp _, φ, _, k, _ => by simp only [VR] at k ⊢; exact k
  | .own _, _, _, k, h => by cases h
  | .cond _ _, φ, _, k, h => by
    simp only [VR] at k ⊢
    simp only [frz] at h
    exact fun q => VR.fz (k q) h
theorem VRl.fz : ∀ {l : List AV} {φ : Phi} {vs : List Value}, VRl φ l vs → frzl l = true → VRl φ.fz l vs
  | [], _, _, k, _ => k
  | _ :: _, φ, _, k, h => by
    simp only [VRl] at k ⊢
    simp only [frzl, Bool.and_eq_true] at h
    obtain ⟨v, vs', e, e1, e2⟩ := k; exact ⟨v, vs', e, VR.fz e1 h.1, VRl.fz e2 h.2⟩
end
def Phi.cut (φ : Phi) (n : Nat) : Phi := ⟨fun b => if b < n then φ b else none, fun b => if b < n then φ.s b else none, φ.f⟩
mutual
noncomputable def low (n : Nat) : AV → Bool
  | .ptr b _ => Nat.ble (b + 1) n
  | .sl b _ _ _ _ => Nat.ble (b + 1) n
  | .map b => Nat.ble (b + 1) n
  | .own b => Nat.ble (b + 1) n
  | .fn _ first cap => lowl n first && lowl n cap
  | .ifc _ a => low n a
  | .agg l => lowl n l
  | .tup l => lowl n l
  | .cond _ a => low n a
  | _ => true
noncomputable def lowl (n : Nat) : List AV → Bool
  | [] => true
  | a :: l => low n a && lowl n l
end
theorem Phi.cut_m {φ : Phi} {n b : Nat} (h : Nat.ble (b + 1) n = true) : (φ.cut n) b = φ b := if_pos (Nat.le_of_ble_eq_true h)
theorem Phi.cut_s {φ : Phi} {n b : Nat} (h : Nat.ble (b + 1) n = true) : (φ.cut n).s b = φ.s b := if_pos (Nat.le_of_ble_eq_true h)
mutual
theorem VR.cut {n : Nat} : ∀ {a : AV} {φ : Phi} {v : Value}, VR φ a v → low n a = true → VR (φ.cut n) a v
  | .bool _, _, _, k, _ => k
  | .int _ _, _, _, k, _ => k
  | .str _, _, _, k, _ => k
  | .ptr _ _, _, _, k, h => by simp only [VR] at k ⊢; rw [Phi.cut_m h]; exact k
  | .nilp, _, _, k, _ => k
  | .sl _ _ _ _ _, _, _, k, h => by simp only [VR] at k ⊢; rw [Phi.cut_m h]; exact k
  | .nils, _, _, k, _ => k
  | .sle, _, _, k, _ => k
  | .map _, _, _, k, h => by simp only [VR] at k ⊢; rw [Phi.cut_m h]; exact k
  | .nilm, _, _, k, _ => k
  | .fn _ _ _, φ, _, k, h => by
    simp only [VR] at k ⊢
    simp only [low, Bool.and_eq_true] at h
    obtain ⟨a, b, e1, e2, r⟩ := k; exact ⟨a, b, VRl.cut e1 h.1, VRl.cut e2 h.2, r⟩
  | .nilf, _, _, k, _ => k
  | .ifc _ _, φ, _, k, h => by
    simp only [VR] at k ⊢
    simp only [low] at h
    obtain ⟨u, e, r⟩ := k; exact ⟨u, VR.cut e h, r⟩
  | .nili, _, _, k, _ => k
  | .agg _, φ, _, k, h => by
    simp only [VR] at k ⊢
    simp only [low] at h
    obtain ⟨u, e, r⟩ := k; exact ⟨u, VRl.cut e h, r⟩
  | .tup _, φ, _, k, h => by
    simp only [VR] at k ⊢
    simp only [low] at h
    obtain ⟨u, e, r⟩ := k; exact ⟨u, VRl.cut e h, r⟩
  | .raw _, _, _, k, _ => k
  | .row _ _ _, φ, _, k, _ => by simp only [VR] at k ⊢; exact k
  | .fp _, φ, _, k, _ => by simp only [VR] at k ⊢; exact k
  | .own _, _, _, k, h => by simp only [VR] at k ⊢; rw [Phi.cut_s h]; exact k
  | .cond _ _, φ, _, k, h => by
    simp only [VR] at k ⊢
    simp only [low] at h
    exact fun q => VR.cut (k q) h
theorem VRl.cut {n : Nat} : ∀ {l : List AV} {φ : Phi} {vs : List Value}, VRl φ l vs → lowl n l = true → VRl (φ.cut n) l vs
  | [], _, _, k, _ => k
  | _ :: _, φ, _, k, h => by
    simp only [VRl] at k ⊢
    simp only [lowl, Bool.and_eq_true] at h
    obtain ⟨v, vs', e, e1, e2⟩ := k; exact ⟨v, vs', e, VR.cut e1 h.1, VRl.cut e2 h.2⟩
end
theorem beq_false {a b : Nat} (h : a ≠ b) : Nat.beq a b = false := by rw [Bool.eq_false_iff]; intro h'; exact h (Nat.eq_of_beq_eq_true h')
theorem beq_cases (a b : Nat) : (Nat.beq a b = true ∧ a = b) ∨ (Nat.beq a b = false ∧ a ≠ b) := by
  by_cases h : a = b
  · exact .inl ⟨by rw [h]; exact Nat.beq_refl b, h⟩
  · exact .inr ⟨beq_false h, h⟩
end Sv
end Go.Proofs.YtaegacblpbbndaaGreatDoor
end
