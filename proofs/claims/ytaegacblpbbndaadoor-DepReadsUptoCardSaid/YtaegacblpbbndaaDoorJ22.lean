/- The texts EvR of the proof, joined. Each says at its theorems what it proves. -/
import Derived.Test.YtaegacblpbbndaaDoorJ21
set_option linter.unusedSimpArgs false
set_option linter.unusedVariables false
section
namespace Go.Proofs.YtaegacblpbbndaaDoor
open Go Go.RowKit
set_option linter.unusedSimpArgs false
set_option linter.unusedVariables false
namespace Ev
section
variable {P : Program} {w0 : Base} {call : Nat → List AV → AH → Rs (CR × AH)} {ops : Array Oper}
inductive ERok (P : Program) (ops : Array Oper) (W : World) (F' : AF) (a : Act) (e : ER) : Prop
  | free (u : Value) (hk : kindOf P e.o = 0) (hid : e.id = none) (hr : ∀ w, (execOp a.eval e.o).run P w = .ok (.value u) w) (hs : ∀ d, e.o.dst = some d → a.tmps.getD d undef = u)
  | new (k : NK) (b x d : Nat) (hk : kindOf P e.o ≠ 0) (hnew : isNew e.o = true) (hid : e.id = some (b, x)) (hd : e.o.dst = some d) (hv : F'.get d = k.av b) (hx : W.heap.size ≤ x) (hs : a.tmps.getD d undef = k.val x)
    (hr : ∀ w, (execOp a.eval e.o).run P w = .ok (.value (k.val w.heap.size)) (w.alloc e.ob))
structure Inv (P : Program) (w0 : Base) (call : Nat → List AV → AH → Rs (CR × AH)) (ops : Array Oper) (φ0 : Phi) (H0 : AH) (F' : AF) (H' : AH) (pl : List Nat) (pd : List (Nat × AV × List Nat)) (Lp : Array Bool) (F : AF) (H : AH) (φ : Phi) (pv : List PV) (E : List ER) (R : List Nat) (Lr : Array Bool) (a : Act) (w : World) : Prop where
  run : drawRun2 P call ops pl pd Lp F H = .ok (F', H')
  ord : ordOK ops pl = true
  le0 : φ0.le φ
  keep : Keep H0 H
  rel : Rel ⟨w0.w, fzE E ++ w0.fz⟩ φ H w
  fsz : a.tmps.size = F.n
  fw : ∀ t, t < F.n → t ∉ dirty P ops pl → VR φ (F.get t) (a.tmps.getD t undef)
  df : DR φ F.df a.defers
  fl : ∀ t, t < F'.n → (∀ j ∈ R, ∀ o, ops[j]? = some o → o.dst ≠ some t) → VR (phiE φ E) (F'.get t) (a.tmps.getD t undef)
  pr : PR φ pd pv
  chk : recheck P ops (evX F (dirty P ops pl)) H Lp pd = true
  szr : Lr.size = ops.size
  szp : Lp.size = ops.size
  lpr : ∀ x, Lp.getD x false = true → Lr.getD x false = true
  lrE : ∀ x, Lr.getD x false = true → Lp.getD x false = true ∨ ∃ e ∈ E, e.i = x
  rl : ∀ j, j < ops.size → Lr.getD j false = false → j ∈ R
  rm : ∀ j ∈ R, Lr.getD j false = false
  rn : R.Nodup
  cov : ∀ j, j < ops.size → Lp.getD j false = false → j ∈ pl
  epl : ∀ e ∈ E, e.i ∈ pl ∧ ops[e.i]? = some e.o ∧ earlyO P e.o = true ∧ Lr.getD e.i false = true ∧ ∀ x ∈ e.o.after, Region.binds .any x = true → Lr.getD x.on false = true
  eok : ∀ e ∈ E, ERok P ops w0.w F' a e
  ids : IdsOK E
  xs : ∀ e ∈ E, ∀ b x, e.id = some (b, x) → (∀ p ∈ w0.fz, p.1 ≠ x) ∧ ∀ e' ∈ E, ∀ b', e'.id = some (b', x) → e'.i = e.i
  enu : ∀ e ∈ E, ∀ e' ∈ E, e.i = e'.i → e = e'
  pq : ∀ p ∈ pd, ∃ oq, ops[p.1]? = some oq ∧ oq.guard = none ∧ ∀ j ∈ pl, ∀ o, ops[j]? = some o → ∀ d, o.dst = some d → d ∉ oq.looksAt ops
theorem anyListed_mono {L L' : Array Bool} (h : ∀ x, L.getD x false = true → L'.getD x false = true) : ∀ {A : List Nat}, anyListed L A = true → anyListed L' A = true
  | [], k => k
  | x :: A, k => by
    simp only [anyListed, Bool.or_eq_true] at k ⊢
    rcases k with k | k
    · exact .inl (h x k)
    · exact .inr (anyListed_mono h k)
theorem wanted_none {o : Oper} (h : o.guard = none) (y : Nat → Option Bool) : Region.wanted o y = true := by unfold Region.wanted; rw [h]
theorem recheck_okE {B : Base} {φ : Phi} {ev : Operand → Option AV} {H : AH} {L L' : Array Bool} {a : Act} {w : World} (hL : ∀ x, L.getD x false = true → L'.getD x false = true) (k : EVR φ ev a.eval) (r : Rel B φ H w) :
    ∀ {pd : List (Nat × AV × List Nat)} {pv : List PV}, recheck P ops ev H L pd = true → PR φ pd pv → (∀ p ∈ pd, ∃ o, ops[p.1]? = some o ∧ o.guard = none) → GP P ops pv L' a w
  | [], pv, _, h2, _ => by simp only [PR] at h2; subst h2; intro p hp; simp at hp
  | (q, b, A) :: pd, pv, h1, h2, h3 => by
    simp only [PR] at h2
    obtain ⟨v, l', rfl, hv, h2⟩ := h2
    simp only [recheck, Bool.and_eq_true, Bool.or_eq_true] at h1
    intro p hp hc
    rcases List.mem_cons.1 hp with rfl | hp
    · rcases h1.1 with h1 | h1
      · have := anyListed_mono hL h1
        rw [anyListed_false hc] at this; cases this
      · split at h1
        · rename_i o ho
          split at h1
          · rename_i c hrd
            obtain ⟨u, hu1, hu2⟩ := readA_ok (P := P) k hrd r
            have ho' : ops[q]? = some o := by simpa using ho
            obtain ⟨o2, ho2, hg⟩ := h3 _ (List.mem_cons_self ..)
            have he : o2 = o := by simp only [ho', Option.some.injEq] at ho2; exact ho2.symm
            rw [he] at hg
            refine ⟨o, ho', .inl ⟨wanted_none hg _, ?_⟩⟩
            rw [hu1, avEq_val (Phi.le_refl φ) h1 hv hu2]
          · cases h1
        · cases h1
    · exact recheck_okE hL k r h1.2 h2 (fun p hp => h3 p (by simp [hp])) p hp hc
section
variable {φ0 : Phi} {H0 : AH} {F' : AF} {H' : AH} {pl : List Nat} {pd : List (Nat × AV × List Nat)} {Lp : Array Bool} {F : AF} {H : AH} {φ : Phi} {pv : List PV} {E : List ER} {R : List Nat} {Lr : Array Bool} {a : Act} {w : World}
theorem Inv.evx (I : Inv P w0 call ops φ0 H0 F' H' pl pd Lp F H φ pv E R Lr a w) : EVR φ (evX F (dirty P ops pl)) a.eval := by
  intro x b h
  cases x with
  | tmp t =>
    simp only [evX] at h
    cases hh : hasN (dirty P ops pl) t with
    | true => rw [hh] at h; cases h
    | false =>
      rw [hh, cond_false] at h
      unfold evF at h
      cases hb : Nat.blt t F.n with
      | false => simp only [hb, cond_false, reduceCtorEq] at h
      | true =>
        simp only [hb, cond_true, Option.some.injEq] at h
        subst h
        exact I.fw t (by simpa [Nat.blt_eq] using hb) (fun hm => by rw [hasN_iff.2 hm] at hh; cases hh)
  | const v => exact ofV_VR h
  | func f =>
    simp only [evX, evF, Option.some.injEq] at h
    subst h
    simp only [VR]
    exact ⟨[], [], .nil, .nil, rfl⟩
  | global g => simp [evX, evF] at h
theorem Inv.gp (I : Inv P w0 call ops φ0 H0 F' H' pl pd Lp F H φ pv E R Lr a w) : GP P ops pv Lr a w :=
  recheck_okE I.lpr I.evx I.rel I.chk I.pr (fun p hp => by obtain ⟨o, h1, h2, _⟩ := I.pq p hp; exact ⟨o, h1, h2⟩)
theorem evL_VR {o : Oper} {G : AF} {ψ : Phi} (h : ∀ t, t ∈ o.looksAt ops → t < G.n → VR ψ (G.get t) (a.tmps.getD t undef)) : EVR ψ (evL ops o G) a.eval := by
  intro x b hx
  cases x with
  | tmp t =>
    simp only [evL] at hx
    cases hh : hasN (o.looksAt ops) t with
    | false => rw [hh] at hx; cases hx
    | true =>
      rw [hh, cond_true] at hx
      unfold evF at hx
      cases hb : Nat.blt t G.n with
      | false => simp only [hb, cond_false, reduceCtorEq] at hx
      | true =>
        simp only [hb, cond_true, Option.some.injEq] at hx
        subst hx
        exact h t (hasN_iff.1 hh) (by simpa [Nat.blt_eq] using hb)
  | const v => exact ofV_VR hx
  | func f =>
    simp only [evL, evF, Option.some.injEq] at hx
    subst hx
    simp only [VR]
    exact ⟨[], [], .nil, .nil, rfl⟩
  | global g => simp [evL, evF] at hx
theorem Inv.inpl (I : Inv P w0 call ops φ0 H0 F' H' pl pd Lp F H φ pv E R Lr a w) {j : Nat} (hj : j < ops.size) (h : Lr.getD j false = false) : j ∈ pl := by
  refine I.cov j hj ?_
  cases hc : Lp.getD j false with
  | false => rfl
  | true => rw [I.lpr j hc] at h; cases h
theorem Inv.rlt (I : Inv P w0 call ops φ0 H0 F' H' pl pd Lp F H φ pv E R Lr a w) (hR : ∀ j ∈ R, j < ops.size) {j : Nat} (hj : j ∈ R) : j ∈ pl := I.inpl (hR j hj) (I.rm j hj)
theorem Inv.looks (I : Inv P w0 call ops φ0 H0 F' H' pl pd Lp F H φ pv E R Lr a w) {j : Nat} {o : Oper} (ho : ops[j]? = some o) (hj : j ∈ pl) (hall : ∀ e ∈ o.after, Region.binds .any e = true → Lr.getD e.on false = true) {k : Nat} {ok : Oper} (hk : k ∈ pl) (hok : ops[k]? = some ok) (hu : Lr.getD k false = false) :
    ∀ d, ok.dst = some d → d ∉ o.looksAt ops := by
  intro d hd hm
  by_cases hjk : j = k
  · subst hjk
    rw [ho] at hok; cases hok
    exact ord_self I.ord hj ho d hd hm
  · rcases ord_pair I.ord hj hk hjk ho hok with hp | hp
    · exact hp.one d hd hm
    · obtain ⟨e, he, hb, hon⟩ := hp.three d hd hm
      have := hall e he hb
      rw [hon, hu] at this; cases this
theorem Inv.dsts (I : Inv P w0 call ops φ0 H0 F' H' pl pd Lp F H φ pv E R Lr a w) {j k : Nat} {o ok : Oper} (ho : ops[j]? = some o) (hj : j ∈ pl) (hk : k ∈ pl) (hok : ops[k]? = some ok) (hne : j ≠ k) : ∀ d, o.dst = some d → ok.dst ≠ some d := by
  intro d hd hkd
  rcases ord_pair I.ord hj hk hne ho hok with hp | hp
  · exact hp.two d hd hkd
  · exact hp.two d hkd hd
theorem Inv.eput (I : Inv P w0 call ops φ0 H0 F' H' pl pd Lp F H φ pv E R Lr a w) (hs : Region.noSelect ops = true) {j : Nat} {o : Oper} (ho : ops[j]? = some o) (hj : j ∈ pl) (hu : Lr.getD j false = false) (v : Value) : ∀ e ∈ E, ERok P ops w0.w F' (a.put o.dst v) e := by
  intro e he
  obtain ⟨e1, e2, e3, e4, e5⟩ := I.epl e he
  have hne : e.i ≠ j := by rintro h; rw [h, hu] at e4; cases e4
  have hl := I.looks e2 e1 e5 hj ho hu
  have hx : execOp (a.put o.dst v).eval e.o = execOp a.eval e.o := execOp_put (ops := ops) e.o (fun cs b => Region.noSelect_spec hs _ e.o cs b e2) a o.dst v hl
  have hd := I.dsts e2 e1 hj ho hne
  have hslot : ∀ d, e.o.dst = some d → (a.put o.dst v).tmps.getD d undef = a.tmps.getD d undef := by
    intro d hed
    cases hod : o.dst with
    | none => rfl
    | some c =>
      have hcd : c ≠ d := by rintro rfl; exact hd c hed hod
      simp [Act.put, Array.getElem?_setIfInBounds_ne hcd]
  rcases I.eok e he with ⟨u, h1, h2, h3, h4⟩ | ⟨k, b, x, d, h1, h2, h3, h4, h5, h6, h7, h8⟩
  · exact .free u h1 h2 (fun w => by rw [hx]; exact h3 w) (fun d hed => by rw [hslot d hed]; exact h4 d hed)
  · exact .new k b x d h1 h2 h3 h4 h5 h6 (by rw [hslot d h4]; exact h7) (fun w => by rw [hx]; exact h8 w)
theorem put_ne {dst : Option Tmp} {v : Value} {t : Nat} (h : dst ≠ some t) : (a.put dst v).tmps.getD t undef = a.tmps.getD t undef := by
  cases dst with
  | none => rfl
  | some c =>
    have hct : c ≠ t := by rintro rfl; exact h rfl
    simp [Act.put, Array.getElem?_setIfInBounds_ne hct]
theorem put_eq {v : Value} {t : Nat} (h : t < a.tmps.size) : (a.put (some t) v).tmps.getD t undef = v := by simp [Act.put, h]
theorem put_size {dst : Option Tmp} {v : Value} : (a.put dst v).tmps.size = a.tmps.size := by cases dst <;> simp [Act.put]
theorem put_df {dst : Option Tmp} {v : Value} : (a.put dst v).defers = a.defers := by cases dst <;> rfl
theorem dirty_mem {j d : Nat} {o : Oper} (ho : ops[j]? = some o) (he : earlyO P o = true) (hd : o.dst = some d) : ∀ {pl : List Nat}, j ∈ pl → d ∈ dirty P ops pl
  | [], h => by cases h
  | i :: l, h => by
    unfold dirty
    rcases List.mem_cons.1 h with rfl | h
    · have ho' : ops.toList[j]? = some o := by simpa using ho
      rw [ho']
      simp only [hd, he, cond_true]
      exact List.mem_cons_self ..
    · have := dirty_mem ho he hd h
      split
      · split
        · cases earlyO P _ with
          | true => rw [cond_true]; exact List.mem_cons_of_mem _ this
          | false => rw [cond_false]; exact this
        · exact this
      · exact this
theorem dirty_tail {i t : Nat} {r : List Nat} {o : Oper} (ho : ops[i]? = some o) (h : t ∉ dirty P ops r) (hd : o.dst ≠ some t) : t ∉ dirty P ops (i :: r) := by
  unfold dirty
  have ho' : ops.toList[i]? = some o := by simpa using ho
  rw [ho']
  simp only
  cases hod : o.dst with
  | none => exact h
  | some d =>
    simp only
    cases earlyO P o with
    | false => rw [cond_false]; exact h
    | true =>
      rw [cond_true]
      intro hm
      rcases List.mem_cons.1 hm with rfl | hm
      · exact hd hod
      · exact h hm
theorem run2_guard : ∀ {pl : List Nat} {pd : List (Nat × AV × List Nat)} {L : Array Bool} {F F' : AF} {H H' : AH}, drawRun2 P call ops pl pd L F H = .ok (F', H') → ∀ j ∈ pl, ∀ o, ops[j]? = some o → o.guard = none
  | [], _, _, _, _, _, _, _, _, hj, _, _ => by cases hj
  | i :: r, pd, L, F, F', H, H', h, j, hj, o, ho => by
    obtain ⟨o2, pd1, F1, H1, ho2, hg, _, h1, _, _⟩ := run2_inv h
    rcases List.mem_cons.1 hj with rfl | hj
    · rw [ho] at ho2; cases ho2; exact hg
    · exact run2_guard h1 j hj o ho
theorem getF {L : Array Bool} {j : Nat} (h : j ∈ Region.ready .any ops L) : L.getD j false = false := by
  have := (mem_ready.1 h).1
  cases hc : L.getD j false with
  | false => rfl
  | true => rw [getD_lt (getD_true_lt hc), hc] at this; cases this
theorem set_of {L : Array Bool} {j x : Nat} (h : (L.setIfInBounds j true).getD x false = false) : x ≠ j ∨ ¬ j < L.size := by
  by_cases e : x = j
  · subst e
    right
    intro hlt
    simp [hlt] at h
  · exact .inl e
theorem Inv.early (I : Inv P w0 call ops φ0 H0 F' H' pl pd Lp F H φ pv E R Lr a w) (hs : Region.noSelect ops = true) {e1 : ER} {w1 : World} {v : Value} (ho : ops[e1.i]? = some e1.o) (he : earlyO P e1.o = true) (hjr : e1.i ∈ Region.ready .any ops Lr)
    (hrel : Rel ⟨w0.w, fzE (e1 :: E) ++ w0.fz⟩ φ H w1) (hle : (phiE φ E).le (phiE φ (e1 :: E))) (hv : ∀ d, e1.o.dst = some d → d < F'.n ∧ VR (phiE φ (e1 :: E)) (F'.get d) v) (hok : ERok P ops w0.w F' (a.put e1.o.dst v) e1) (hids : IdsOK (e1 :: E))
    (hxs : ∀ b x, e1.id = some (b, x) → (∀ p ∈ w0.fz, p.1 ≠ x) ∧ ∀ e' ∈ E, ∀ b', e'.id ≠ some (b', x)) :
    Inv P w0 call ops φ0 H0 F' H' pl pd Lp F H φ pv (e1 :: E) (R.erase e1.i) (Lr.setIfInBounds e1.i true) (a.put e1.o.dst v) w1 := by
  have hlt : e1.i < ops.size := (Array.getElem?_eq_some_iff.1 ho).1
  have hu := getF hjr
  have hpl := I.inpl hlt hu
  obtain ⟨_, o', ho', hall⟩ := mem_ready.1 hjr
  rw [ho] at ho'; cases ho'
  have hn : F'.n = F.n := (run2_later I.run).1
  have hsz : Lr.size = ops.size := I.szr
  refine { run := I.run, ord := I.ord, le0 := I.le0, keep := I.keep, rel := hrel, fsz := by rw [put_size]; exact I.fsz, fw := ?_, df := by rw [put_df]; exact I.df, fl := ?_, pr := I.pr, chk := I.chk, szr := by simp [hsz], szp := I.szp, lpr := fun x hx => getD_set_true (I.lpr x hx), lrE := ?_, rl := ?_, rm := ?_, rn := I.rn.erase _, cov := I.cov, epl := ?_, eok := ?_, ids := hids, xs := ?_, enu := ?_, pq := I.pq }
  · intro t ht hm
    rw [put_ne (fun hd => hm (dirty_mem ho he hd hpl))]
    exact I.fw t ht hm
  · intro t ht hm
    by_cases hd : e1.o.dst = some t
    · have := (hv t hd).2
      rw [hd, put_eq (by rw [I.fsz, ← hn]; exact ht)]
      exact this
    · rw [put_ne hd]
      refine (I.fl t ht fun k hk o hok hdk => ?_).mono hle
      by_cases hkj : k = e1.i
      · subst hkj; rw [ho] at hok; cases hok; exact hd hdk
      · exact hm k ((List.mem_erase_of_ne hkj).2 hk) o hok hdk
  · intro x hx
    by_cases hxj : e1.i = x
    · exact .inr ⟨e1, List.mem_cons_self .., hxj⟩
    · rw [getD_set_ne false hxj] at hx
      rcases I.lrE x hx with h | ⟨e, h1, h2⟩
      · exact .inl h
      · exact .inr ⟨e, List.mem_cons_of_mem _ h1, h2⟩
  · intro j hj hx
    have hne : j ≠ e1.i := by
      rcases set_of hx with h | h
      · exact h
      · exact absurd (by rw [hsz]; exact hlt) h
    rw [getD_set_ne false (Ne.symm hne)] at hx
    exact (List.mem_erase_of_ne hne).2 (I.rl j hj hx)
  · intro j hj
    have := I.rn.mem_erase_iff.1 hj
    rw [getD_set_ne false (Ne.symm this.1)]
    exact I.rm j this.2
  · intro e hee
    rcases List.mem_cons.1 hee with rfl | hee
    · exact ⟨hpl, ho, he, by simp [hsz, hlt], fun x hx hb => getD_set_true (hall x hx hb)⟩
    · obtain ⟨g1, g2, g3, g4, g5⟩ := I.epl e hee
      exact ⟨g1, g2, g3, getD_set_true g4, fun x hx hb => getD_set_true (g5 x hx hb)⟩
  · intro e hee
    rcases List.mem_cons.1 hee with rfl | hee
    · exact hok
    · exact I.eput hs ho hpl hu v e hee
  · intro e hee b x hid
    rcases List.mem_cons.1 hee with rfl | hE
    · obtain ⟨g1, g2⟩ := hxs b x hid
      refine ⟨g1, fun e' he' b' hid' => ?_⟩
      rcases List.mem_cons.1 he' with rfl | he'
      · rfl
      · exact absurd hid' (g2 e' he' b')
    · obtain ⟨g1, g2⟩ := I.xs e hE b x hid
      refine ⟨g1, fun e' he' b' hid' => ?_⟩
      rcases List.mem_cons.1 he' with rfl | he'
      · exact absurd hid ((hxs b' x hid').2 e hE b)
      · exact g2 e' he' b' hid'
  · have hne : ∀ e ∈ E, e.i ≠ e1.i := by
      intro e hee h
      have := (I.epl e hee).2.2.2.1
      rw [h, hu] at this; cases this
    intro e hee e' hee' hi
    rcases List.mem_cons.1 hee with rfl | hE
    · rcases List.mem_cons.1 hee' with rfl | hee'
      · rfl
      · exact absurd hi.symm (hne e' hee')
    · rcases List.mem_cons.1 hee' with rfl | hee'
      · exact absurd hi (hne e hE)
      · exact I.enu e hE e' hee' hi
theorem Inv.both {i : Nat} {r : List Nat} (I : Inv P w0 call ops φ0 H0 F' H' (i :: r) pd Lp F H φ pv E R Lr a w) (hs : Region.noSelect ops = true) {o : Oper} (ho : ops[i]? = some o) (hir : i ∈ Region.ready .any ops Lr)
    {pd1 : List (Nat × AV × List Nat)} {pv1 : List PV} {F1 : AF} {H1 : AH} {φ1 : Phi} {w1 : World} {a0 : AV} {v : Value} (run1 : drawRun2 P call ops r pd1 (Lp.setIfInBounds i true) F1 H1 = .ok (F', H')) (chk1 : recheck P ops (evX F1 (dirty P ops r)) H1 (Lp.setIfInBounds i true) pd1 = true)
    (hput : F.put o.dst a0 = some F1) (hva : VR φ1 a0 v) (hle : φ.le φ1) (hkeep : Keep H H1) (hrel : Rel ⟨w0.w, fzE E ++ w0.fz⟩ φ1 H1 w1) (hpr : PR φ1 pd1 pv1)
    (hpq : ∀ p ∈ pd1, ∃ oq, ops[p.1]? = some oq ∧ oq.guard = none ∧ ∀ j ∈ r, ∀ o, ops[j]? = some o → ∀ d, o.dst = some d → d ∉ oq.looksAt ops) :
    Inv P w0 call ops φ0 H0 F' H' r pd1 (Lp.setIfInBounds i true) F1 H1 φ1 pv1 E (R.erase i) (Lr.setIfInBounds i true) (a.put o.dst v) w1 := by
  have hlt : i < ops.size := (Array.getElem?_eq_some_iff.1 ho).1
  have hu := getF hir
  have hpl : i ∈ i :: r := List.mem_cons_self ..
  obtain ⟨o1, o2, o3⟩ := ordOK_head ho I.ord
  obtain ⟨p1, p2, p3, p4⟩ := AF.put_any hput
  obtain ⟨q1, _, _, _, q5⟩ := run2_later run1
  have hsz : Lr.size = ops.size := I.szr
  have hEr : ∀ e ∈ E, e.i ∈ r := by
    intro e he
    obtain ⟨g1, _, _, g4, _⟩ := I.epl e he
    rcases List.mem_cons.1 g1 with h | h
    · rw [h, hu] at g4; cases g4
    · exact h
  have hid1 : ∀ e ∈ E, ∀ b x, e.id = some (b, x) → φ1 b = none := by
    intro e he b x hid
    obtain ⟨g1, g2, g3, _, _⟩ := I.epl e he
    rcases I.eok e he with ⟨u, h1, h2, _, _⟩ | ⟨k, b', x', d, h1, h2, h3, h4, h5, _, _, _⟩
    · rw [h2] at hid; cases hid
    · rw [h3] at hid; cases hid
      rcases run2_local run1 o3 e.i (hEr e he) e.o g2 g3 with ⟨a', hk, _, _⟩ | ⟨k2, ao, d2, b2, _, _, _, hd2, _, hv2, hb2⟩
      · exact absurd hk h1
      · rw [h4] at hd2; cases hd2
        rw [h5] at hv2
        obtain ⟨_, rfl⟩ := av_inj hv2
        exact hrel.dom _ hb2
  have hleE : (phiE φ E).le (phiE φ1 E) := by
    refine phiE_le I.ids I.ids (fun e he b x hid => phiE_at I.ids he hid) (fun b y hb hn => ?_)
    rcases phiE_cases φ1 E b I.ids with ⟨e, he, x, hid, _⟩ | ⟨_, hx⟩
    · exact absurd hid (hn e he x)
    · rw [hx]; exact hle b y hb
  refine { run := run1, ord := o3, le0 := Phi.le_trans I.le0 hle, keep := I.keep.trans hkeep, rel := hrel, fsz := by rw [put_size, p1]; exact I.fsz, fw := ?_, df := by rw [put_df, p2]; exact I.df.mono hle, fl := ?_, pr := hpr, chk := chk1, szr := by simp [hsz], szp := by simp [I.szp], lpr := ?_, lrE := ?_, rl := ?_, rm := ?_, rn := I.rn.erase _, cov := ?_, epl := ?_, eok := fun e he => I.eput hs ho hpl hu v e he, ids := I.ids, xs := I.xs, enu := I.enu, pq := hpq }
  · intro t ht hm
    by_cases hd : o.dst = some t
    · have := (p3 t hd).2
      rw [hd, put_eq (by rw [I.fsz, ← p1]; exact ht), this]
      exact hva
    · rw [put_ne hd, p4 t hd]
      exact (I.fw t (by rw [← p1]; exact ht) (dirty_tail ho hm hd)).mono hle
  · intro t ht hm
    by_cases hd : o.dst = some t
    · have h1 := (p3 t hd).2
      have h2 : F'.get t = F1.get t := q5 t fun k hk ok hok hdk => by
        obtain ⟨b, hb, hp⟩ := o2 k hk
        rw [hb] at hok; cases hok
        exact hp.two t hd hdk
      rw [hd, put_eq (by rw [I.fsz, ← p1, ← q1]; exact ht), h2, h1]
      exact hva.mono (le_phiE I.ids hid1)
    · rw [put_ne hd]
      refine (I.fl t ht fun k hk ok hok hdk => ?_).mono hleE
      by_cases hkj : k = i
      · subst hkj; rw [ho] at hok; cases hok; exact hd hdk
      · exact hm k ((List.mem_erase_of_ne hkj).2 hk) ok hok hdk
  · intro x hx
    by_cases hxi : i = x
    · subst hxi; simp [hsz, hlt]
    · rw [getD_set_ne false hxi] at hx ⊢; exact I.lpr x hx
  · intro x hx
    by_cases hxi : i = x
    · subst hxi; left; simp [I.szp, hlt]
    · rw [getD_set_ne false hxi] at hx ⊢; exact I.lrE x hx
  · intro j hj hx
    have hne : j ≠ i := by
      rcases set_of hx with h | h
      · exact h
      · exact absurd (by rw [hsz]; exact hlt) h
    rw [getD_set_ne false (Ne.symm hne)] at hx
    exact (List.mem_erase_of_ne hne).2 (I.rl j hj hx)
  · intro j hj
    have := I.rn.mem_erase_iff.1 hj
    rw [getD_set_ne false (Ne.symm this.1)]
    exact I.rm j this.2
  · intro j hj hx
    have hne : j ≠ i := by
      rcases set_of hx with h | h
      · exact h
      · exact absurd (by rw [I.szp]; exact hlt) h
    rw [getD_set_ne false (Ne.symm hne)] at hx
    rcases List.mem_cons.1 (I.cov j hj hx) with h | h
    · exact absurd h hne
    · exact h
  · intro e hee
    obtain ⟨g1, g2, g3, g4, g5⟩ := I.epl e hee
    exact ⟨hEr e hee, g2, g3, getD_set_true g4, fun x hx hb => getD_set_true (g5 x hx hb)⟩
theorem dirty_inv {t : Nat} : ∀ {pl : List Nat}, t ∈ dirty P ops pl → ∃ k ∈ pl, ∃ o, ops[k]? = some o ∧ o.dst = some t
  | [], h => by cases h
  | i :: l, h => by
    unfold dirty at h
    have tail : t ∈ dirty P ops l → ∃ k ∈ i :: l, ∃ o, ops[k]? = some o ∧ o.dst = some t := by
      intro h
      obtain ⟨k, h1, h2⟩ := dirty_inv h
      exact ⟨k, List.mem_cons_of_mem _ h1, h2⟩
    split at h
    · rename_i o ho
      split at h
      · rename_i d hd
        cases hc : earlyO P o with
        | false => rw [hc, cond_false] at h; exact tail h
        | true =>
          rw [hc, cond_true] at h
          rcases List.mem_cons.1 h with rfl | h
          · exact ⟨i, List.mem_cons_self .., o, by simpa using ho, hd⟩
          · exact tail h
      · exact tail h
    · exact tail h
noncomputable def without (i : Nat) (E : List ER) : List ER := E.filter (fun e => !Nat.beq e.i i)
theorem mem_without {i : Nat} {E : List ER} {e : ER} : e ∈ without i E ↔ e ∈ E ∧ e.i ≠ i := by
  unfold without
  simp only [List.mem_filter, Bool.not_eq_true']
  constructor
  · rintro ⟨h1, h2⟩; exact ⟨h1, beqN h2⟩
  · rintro ⟨h1, h2⟩; exact ⟨h1, beq_false h2⟩
theorem Inv.caught {i : Nat} {r : List Nat} (I : Inv P w0 call ops φ0 H0 F' H' (i :: r) pd Lp F H φ pv E R Lr a w) {o : Oper} (ho : ops[i]? = some o) (hli : Lr.getD i false = true)
    {F1 : AF} {H1 : AH} {φ1 : Phi} {a0 : AV} (run1 : drawRun2 P call ops r pd (Lp.setIfInBounds i true) F1 H1 = .ok (F', H')) (chk1 : recheck P ops (evX F1 (dirty P ops r)) H1 (Lp.setIfInBounds i true) pd = true)
    (hput : F.put o.dst a0 = some F1) (hva : ∀ d, o.dst = some d → VR φ1 a0 (a.tmps.getD d undef)) (hle : φ.le φ1) (hkeep : Keep H H1) (hrel : Rel ⟨w0.w, fzE (without i E) ++ w0.fz⟩ φ1 H1 w) (hleE : (phiE φ E).le (phiE φ1 (without i E))) :
    Inv P w0 call ops φ0 H0 F' H' r pd (Lp.setIfInBounds i true) F1 H1 φ1 pv (without i E) R Lr a w := by
  have hlt : i < ops.size := (Array.getElem?_eq_some_iff.1 ho).1
  obtain ⟨o1, o2, o3⟩ := ordOK_head ho I.ord
  obtain ⟨p1, p2, p3, p4⟩ := AF.put_any hput
  have sub : ∀ e ∈ without i E, e ∈ E := fun e he => (mem_without.1 he).1
  refine { run := run1, ord := o3, le0 := Phi.le_trans I.le0 hle, keep := I.keep.trans hkeep, rel := hrel, fsz := by rw [p1]; exact I.fsz, fw := ?_, df := by rw [p2]; exact I.df.mono hle, fl := fun t ht hm => (I.fl t ht hm).mono hleE, pr := I.pr.mono hle, chk := chk1, szr := I.szr, szp := by simp [I.szp], lpr := ?_, lrE := ?_, rl := I.rl, rm := I.rm, rn := I.rn, cov := ?_, epl := ?_, eok := fun e he => I.eok e (sub e he), ids := fun e he e' he' => I.ids e (sub e he) e' (sub e' he'), xs := fun e he b x hid => ⟨(I.xs e (sub e he) b x hid).1, fun e' he' => (I.xs e (sub e he) b x hid).2 e' (sub e' he')⟩, enu := fun e he e' he' => I.enu e (sub e he) e' (sub e' he'), pq := ?_ }
  · intro t ht hm
    by_cases hd : o.dst = some t
    · rw [(p3 t hd).2]; exact hva t hd
    · rw [p4 t hd]
      exact (I.fw t (by rw [← p1]; exact ht) (dirty_tail ho hm hd)).mono hle
  · intro x hx
    by_cases hxi : i = x
    · subst hxi; exact hli
    · rw [getD_set_ne false hxi] at hx; exact I.lpr x hx
  · intro x hx
    by_cases hxi : i = x
    · subst hxi; left; simp [I.szp, hlt]
    · rw [getD_set_ne false hxi]
      rcases I.lrE x hx with h | ⟨e, h1, h2⟩
      · exact .inl h
      · exact .inr ⟨e, mem_without.2 ⟨h1, by rw [h2]; exact Ne.symm hxi⟩, h2⟩
  · intro j hj hx
    have hne : j ≠ i := by
      rcases set_of hx with h | h
      · exact h
      · exact absurd (by rw [I.szp]; exact hlt) h
    rw [getD_set_ne false (Ne.symm hne)] at hx
    rcases List.mem_cons.1 (I.cov j hj hx) with h | h
    · exact absurd h hne
    · exact h
  · intro e hee
    obtain ⟨he, hne⟩ := mem_without.1 hee
    obtain ⟨g1, g2, g3, g4, g5⟩ := I.epl e he
    rcases List.mem_cons.1 g1 with h | h
    · exact absurd h hne
    · exact ⟨h, g2, g3, g4, g5⟩
  · intro p hp
    obtain ⟨oq, h1, h2, h3⟩ := I.pq p hp
    exact ⟨oq, h1, h2, fun j hj => h3 j (List.mem_cons_of_mem _ hj)⟩
theorem Inv.evh {i : Nat} {r : List Nat} (I : Inv P w0 call ops φ0 H0 F' H' (i :: r) pd Lp F H φ pv E R Lr a w) {o : Oper} (ho : ops[i]? = some o) : EVR φ (evL ops o F) a.eval := by
  obtain ⟨o1, o2, _⟩ := ordOK_head ho I.ord
  refine evL_VR fun t ht hlt => I.fw t hlt fun hm => ?_
  obtain ⟨k, hk, ok, hok, hd⟩ := dirty_inv hm
  rcases List.mem_cons.1 hk with rfl | hk
  · rw [ho] at hok; cases hok; exact o1 t hd ht
  · obtain ⟨b, hb, hp⟩ := o2 k hk
    rw [hb] at hok; cases hok
    exact hp.one t hd ht
theorem Inv.catch_ {i : Nat} {r : List Nat} (I : Inv P w0 call ops φ0 H0 F' H' (i :: r) pd Lp F H φ pv E R Lr a w) {e : ER} (he : e ∈ E) (hei : e.i = i) :
    ∃ F1 H1 φ1, Inv P w0 call ops φ0 H0 F' H' r pd (Lp.setIfInBounds i true) F1 H1 φ1 pv (without i E) R Lr a w := by
  subst hei
  obtain ⟨o, pd1, F1, H1, ho, hg, hrdy, run1, chk1, hs⟩ := run2_inv I.run
  obtain ⟨g1, g2, g3, g4, g5⟩ := I.epl e he
  have hoe : o = e.o := by rw [ho] at g2; exact Option.some.inj g2
  subst hoe
  have sub : ∀ e' ∈ without e.i E, e' ∈ E := fun e he => (mem_without.1 he).1
  have idsW : IdsOK (without e.i E) := fun e1 h1 e2 h2 => I.ids e1 (sub e1 h1) e2 (sub e2 h2)
  have ev := I.evh ho
  cases hs with
  | read a0 _ _ _ hk hnew => unfold earlyO at g3; rw [hnew, hk] at g3; cases g3
  | act a0 _ _ hk hnew => unfold earlyO at g3; rw [hnew, Bool.or_false] at g3; exact absurd (Nat.eq_of_beq_eq_true g3) hk
  | free a0 _ hk hp hput hn =>
    rcases I.eok e he with ⟨u, h1, h2, h3, h4⟩ | ⟨k, b, x, d, h1, h2, h3, h4, h5, h6, h7, h8⟩
    · obtain ⟨v, hv1, hv2⟩ := pureA_ok ev hp
      have huv : u = v := by
        have := (h3 w).symm.trans (hv1 w)
        simpa using this
      subst huv
      refine ⟨F1, H, φ, I.caught ho g4 run1 chk1 hput (fun d hd => by rw [h4 d hd]; exact hv2) (Phi.le_refl _) (Keep.refl _) (I.rel.thaw fun p hp => ?_) ?_⟩
      · rcases List.mem_append.1 hp with hp | hp
        · obtain ⟨e', k1, b, k2, k3⟩ := fzE_mem hp
          refine List.mem_append.2 (.inl ?_)
          have := mem_fzE (sub e' k1) k2
          rw [← k3] at this; exact this
        · exact List.mem_append.2 (.inr hp)
      · refine phiE_le I.ids idsW (fun e' he' b x hid => phiE_at idsW (mem_without.2 ⟨he', fun hi => ?_⟩) hid) (fun b y hb hn => ?_)
        · rw [I.enu e' he' e he hi, h2] at hid; cases hid
        · rcases phiE_cases φ (without e.i E) b idsW with ⟨e', he', x, hid, _⟩ | ⟨_, hx⟩
          · exact absurd hid (hn e' (sub e' he') x)
          · rw [hx]; exact hb
    · exact absurd hk h1
  | new k ao d _ hk hnew hp hd hput hroom hc =>
    rcases I.eok e he with ⟨u, h1, h2, h3, h4⟩ | ⟨k', b, x, d', h1, h2, h3, h4, h5, h6, h7, h8⟩
    · exact absurd h1 hk
    · rw [hd] at h4; cases h4
      have hput' := hput
      rw [hd] at hput'
      obtain ⟨_, _, _, p4, _⟩ := AF.put_some hput'
      obtain ⟨o1, o2, o3⟩ := ordOK_head ho I.ord
      obtain ⟨q1, _, _, _, q5⟩ := run2_later run1
      have hF : F'.get d = F1.get d := q5 d fun kk hkk ok hok hdk => by
        obtain ⟨bb, hbb, hpr⟩ := o2 kk hkk
        rw [hbb] at hok; cases hok
        exact hpr.two d hd hdk
      rw [hF, p4] at h5
      obtain ⟨rfl, rfl⟩ := av_inj h5
      obtain ⟨ob, k1, k2⟩ := newA_ok (P := P) ev hp
      have hob : ob = e.ob := by
        have h9 := (k2 w).symm.trans (h8 w)
        simp only [Result.ok.injEq] at h9
        have h10 := heap_alloc_new w ob
        rw [h9.2, heap_alloc_new w e.ob] at h10
        exact (Option.some.inj h10).symm
      subst hob
      have hle : φ.le (ext φ H.nx (x, 0)) := ext_le (I.rel.dom _ (Nat.le_refl _))
      have hrel : Rel ⟨w0.w, fzE (without e.i E) ++ w0.fz⟩ (ext φ H.nx (x, 0)) (H.add ao) w := by
        refine I.rel.take (fun p hp => ?_) hroom h6 (fun p hp => ?_) (List.mem_append.2 (.inl (mem_fzE he h3))) k1
        · rcases List.mem_append.1 hp with hp | hp
          · obtain ⟨e', k1, b, k2, k3⟩ := fzE_mem hp
            refine List.mem_append.2 (.inl ?_)
            have := mem_fzE (sub e' k1) k2
            rw [← k3] at this; exact this
          · exact List.mem_append.2 (.inr hp)
        · rcases List.mem_append.1 hp with hp | hp
          · obtain ⟨e', k1, b, k2, k3⟩ := fzE_mem hp
            intro hx
            rw [hx] at k2
            exact (mem_without.1 k1).2 ((I.xs e he _ _ h3).2 e' (sub e' k1) b k2)
          · exact (I.xs e he _ _ h3).1 p hp
      refine ⟨F1, H.add ao, ext φ H.nx (x, 0), I.caught ho g4 run1 chk1 hput (fun d1 hd1 => ?_) hle (AH.add_keep hroom) hrel ?_⟩
      · rw [hd] at hd1; cases hd1
        rw [h7]
        exact NK.vr (ext_same _ _ _)
      · refine phiE_le I.ids idsW (fun e' he' b y hid => ?_) (fun b y hb hn => ?_)
        · by_cases hi : e'.i = e.i
          · rw [I.enu e' he' e he hi, h3] at hid
            cases hid
            rcases phiE_cases (ext φ H.nx (x, 0)) (without e.i E) H.nx idsW with ⟨e2, he2, x2, hid2, hx2⟩ | ⟨_, hx⟩
            · rw [hx2, I.ids e2 (sub e2 he2) e he _ _ _ hid2 h3]
            · rw [hx]; exact ext_same _ _ _
          · exact phiE_at idsW (mem_without.2 ⟨he', hi⟩) hid
        · rcases phiE_cases (ext φ H.nx (x, 0)) (without e.i E) b idsW with ⟨e', he', x2, hid, _⟩ | ⟨_, hx⟩
          · exact absurd hid (hn e' (sub e' he') x2)
          · rw [hx]; exact hle b y hb
end
end
end Ev
end Go.Proofs.YtaegacblpbbndaaDoor
end
