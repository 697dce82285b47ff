/- The texts EvS of the proof, joined. Each says at its theorems what it proves. -/
import Derived.Test.YtaegacblpbbndaaDoorJ22
set_option linter.unusedSimpArgs false
set_option linter.unusedVariables false
section
namespace Go.Proofs.YtaegacblpbbndaaDoor
open Go Go.RowKit
set_option linter.unusedSimpArgs false
set_option linter.unusedVariables false
namespace Ev
section
variable {P : Program} {w0 : Base} {call : Nat → List AV → AH → Rs (CR × AH)} {ops : Array Oper}
section
variable {φ0 : Phi} {H0 : AH} {F' : AF} {H' : AH} {pl : List Nat} {pd : List (Nat × AV × List Nat)} {Lp : Array Bool} {F : AF} {H : AH} {φ : Phi} {pv : List PV} {E : List ER} {R : List Nat} {Lr : Array Bool} {a : Act} {w : World}
theorem ids_cons {e1 : ER} (h : IdsOK E) (h1 : ∀ b x, e1.id = some (b, x) → ∀ e ∈ E, ∀ x', e.id ≠ some (b, x')) : IdsOK (e1 :: E) := by
  intro e he e' he' b x x' h2 h3
  rcases List.mem_cons.1 he with rfl | hE
  · rcases List.mem_cons.1 he' with rfl | hE'
    · rw [h2] at h3; cases h3; rfl
    · exact absurd h3 (h1 b x h2 e' hE' x')
  · rcases List.mem_cons.1 he' with rfl | hE'
    · exact absurd h2 (h1 b x' h3 e hE x)
    · exact h e hE e' hE' b x x' h2 h3
theorem Inv.early_step (I : Inv P w0 call ops φ0 H0 F' H' pl pd Lp F H φ pv E R Lr a w) (hs : Region.noSelect ops = true) (hR : ∀ j ∈ R, j < ops.size) {j : Nat} (hjr : j ∈ Region.ready .any ops Lr) (he : Ev.early P ops j = true) {Q : Exit → Act → World → Prop} {K : Act → World → Prop}
    (h : ∀ E' a' w', Inv P w0 call ops φ0 H0 F' H' pl pd Lp F H φ pv E' (R.erase j) (Lr.setIfInBounds j true) a' w' → K a' w') : wpOp P ops Q j K a w := by
  obtain ⟨_, o, ho, hall⟩ := mem_ready.1 hjr
  have hlt : j < ops.size := (Array.getElem?_eq_some_iff.1 ho).1
  have hu := getF hjr
  have hpl := I.inpl hlt hu
  have heo : earlyO P o = true := by
    unfold Ev.early at he
    have ho' : ops.toList[j]? = some o := by simpa using ho
    rw [ho'] at he; exact he
  have hg := run2_guard I.run j hpl o ho
  have hn : F'.n = F.n := (run2_later I.run).1
  have ev : EVR (phiE φ E) (evL ops o F') a.eval := evL_VR fun t ht hlt => I.fl t hlt fun k hk ok hok hdk => I.looks ho hpl hall (I.rlt hR hk) hok (I.rm k hk) t hdk ht
  have hself := ord_self I.ord hpl ho
  rcases run2_local I.run I.ord j hpl o ho heo with ⟨a0, hk, hp, hd⟩ | ⟨k, ao, d, b, hk, hnew, hp, hd, hdl, hv, hb⟩
  · obtain ⟨v, hv1, hv2⟩ := pureA_ok ev hp
    refine YieldsW.wpOp ho (.inl ⟨wanted_none hg _, hv1 w⟩) (h (⟨j, o, none, default⟩ :: E) _ _ ?_)
    refine I.early hs (e1 := ⟨j, o, none, default⟩) ho heo hjr I.rel (Phi.le_refl _) (fun d hd1 => ⟨(hd d hd1).1, by rw [(hd d hd1).2]; exact hv2⟩) ?_ (ids_cons I.ids fun b x h => (by cases h)) (fun b x h => (by cases h))
    refine .free v hk rfl (fun w => ?_) (fun d hd1 => ?_)
    · rw [execOp_put (ops := ops) o (fun cs b => Region.noSelect_spec hs _ o cs b ho) a o.dst v hself]; exact hv1 w
    · rw [show o.dst = some d from hd1, put_eq (by rw [I.fsz, ← hn]; exact (hd d hd1).1)]
  · obtain ⟨ob, h1, h2⟩ := newA_ok (P := P) ev hp
    have hnoid : ∀ e ∈ E, ∀ x', e.id ≠ some (b, x') := by
      intro e hee x' hid
      obtain ⟨g1, g2, g3, g4, _⟩ := I.epl e hee
      have hne : j ≠ e.i := by rintro rfl; rw [hu] at g4; cases g4
      rcases I.eok e hee with ⟨u, k1, k2, _, _⟩ | ⟨k', b', x, d', k1, k2, k3, k4, k5, _, _, _⟩
      · rw [k2] at hid; cases hid
      · rw [k3] at hid; cases hid
        exact run2_ids I.run I.ord j hpl e.i g1 hne o e.o ho g2 hnew hk k2 k1 d d' k k' b b hd k4 hv k5 rfl
    have hnone : phiE φ E b = none := by
      rcases phiE_cases φ E b I.ids with ⟨e, hee, x, hid, _⟩ | ⟨_, hx⟩
      · exact absurd hid (hnoid e hee x)
      · rw [hx]; exact I.rel.dom b hb
    refine wpOp_of_wp ho (wanted_none hg _) ?_
    unfold Oper.wp
    rw [h2 w, Oper.upon_value]
    refine h (⟨j, o, some (b, w.heap.size), ob⟩ :: E) _ _ ?_
    refine I.early hs (e1 := ⟨j, o, some (b, w.heap.size), ob⟩) ho heo hjr (I.rel.early ob) (ext_le hnone) (fun d1 hd1 => ?_) ?_ (ids_cons I.ids fun b' x h => (by cases h; exact hnoid)) (fun b' x h => ?_)
    · rw [show o.dst = some d1 from hd1] at hd; cases hd
      refine ⟨hdl, ?_⟩
      rw [hv]
      exact NK.vr (ext_same _ _ _)
    · refine .new k b w.heap.size d hk hnew rfl hd hv I.rel.below.size ?_ (fun w' => ?_)
      · show (a.put o.dst _).tmps.getD d undef = _
        rw [hd, put_eq (by rw [I.fsz, ← hn]; exact hdl)]
      · rw [execOp_put (ops := ops) o (fun cs b => Region.noSelect_spec hs _ o cs b ho) a o.dst _ hself]; exact h2 w'
    · cases h
      refine ⟨fun p hp => ?_, fun e' he' b'' hid => ?_⟩
      · have := fz_lt I.rel (List.mem_append.2 (.inr hp)); omega
      · have := fz_lt I.rel (List.mem_append.2 (.inl (mem_fzE he' hid)))
        simp only at this
        omega
theorem noneIn_mem {i : Nat} : ∀ {pd : List (Nat × AV × List Nat)} {p : Nat × AV × List Nat}, noneIn i pd = true → p ∈ pd → i ∉ p.2.2
  | [], _, _, h => by cases h
  | (q, b, A) :: l, p, h, hp => by
    simp only [noneIn, Bool.and_eq_true, Bool.not_eq_true'] at h
    rcases List.mem_cons.1 hp with rfl | hp
    · intro hm; rw [hasN_iff.2 hm] at h; cases h.1
    · exact noneIn_mem h.2 hp
theorem dirty_not {i : Nat} {r : List Nat} {o : Oper} (ho : ops[i]? = some o) (he : earlyO P o = false) : dirty P ops (i :: r) = dirty P ops r := by
  have ho' : ops.toList[i]? = some o := by simpa using ho
  conv => lhs; unfold dirty
  rw [ho']
  simp only [he, cond_false]
  cases o.dst <;> rfl
end
theorem within_mem {E : List Nat} : ∀ {l : List Nat}, within_ E l = true → ∀ x ∈ l, x ∈ E
  | [], _, x, hx => by cases hx
  | y :: l, h, x, hx => by
    simp only [within_, Bool.and_eq_true] at h
    rcases List.mem_cons.1 hx with rfl | hx
    · exact hasN_iff.1 h.1
    · exact within_mem h.2 x hx
theorem unlisted_mem {L : Array Bool} : ∀ {l : List Nat}, unlisted L l = true → ∀ x ∈ l, L.getD x false = false
  | [], _, x, hx => by cases hx
  | y :: l, h, x, hx => by
    simp only [unlisted, Bool.and_eq_true, Bool.not_eq_true'] at h
    rcases List.mem_cons.1 hx with rfl | hx
    · exact h.1
    · exact unlisted_mem h.2 x hx
theorem justified_mem {i : Nat} {E : List Nat} : ∀ {l : List Nat}, justified ops i E l = true → ∀ x ∈ l, ∀ o, ops[x]? = some o → ∃ e ∈ o.after, Region.binds .any e = true ∧ (e.on = i ∨ e.on ∈ E)
  | [], _, x, hx => by cases hx
  | y :: l, h, x, hx => by
    intro o' ho'
    simp only [justified, Bool.and_eq_true] at h
    rcases List.mem_cons.1 hx with rfl | hx
    · have ho2 : ops.toList[x]? = some o' := by simpa using ho'
      rw [ho2] at h
      have h1 := h.1
      simp only [List.any_eq_true, Bool.and_eq_true, Bool.or_eq_true] at h1
      obtain ⟨e, he, hb, hon⟩ := h1
      refine ⟨e, by simpa using he, hb, ?_⟩
      rcases hon with hon | hon
      · exact .inl (Nat.eq_of_beq_eq_true hon)
      · exact .inr (hasN_iff.1 hon)
    · exact justified_mem h.2 x hx o' ho'
theorem draw2_end {φ0 : Phi} {H0 : AH} {F' : AF} {H' : AH} {pd : List (Nat × AV × List Nat)} {Lp : Array Bool} {F : AF} {H : AH} {φ : Phi} {pv : List PV} {E : List ER} {R : List Nat} {Lr : Array Bool} {a : Act} {w : World}
    (I : Inv P w0 call ops φ0 H0 F' H' [] pd Lp F H φ pv E R Lr a w) (n : Nat) : wpAnyG P ops (fun e a w => e = .normal ∧ ∃ φ', φ0.le φ' ∧ Rel w0 φ' H' w ∧ Keep H0 H' ∧ FR φ' F' a) (GP P ops pv) n Lr a w := by
  have hE : E = [] := by
    cases E with
    | nil => rfl
    | cons e E => have := (I.epl e (List.mem_cons_self ..)).1; cases this
  subst hE
  obtain ⟨h1, rfl, rfl⟩ := run2_nil I.run
  have hLp : ∀ x, Lr.getD x false = true → Lp.getD x false = true := by
    intro x hx
    rcases I.lrE x hx with h | ⟨e, he, _⟩
    · exact h
    · cases he
  refine wpAnyG_done ?_ ⟨rfl, φ, I.le0, I.rel, I.keep, ⟨I.fsz, fun t ht => I.fw t ht (fun h => by cases h), I.df⟩⟩ n
  rw [List.eq_nil_iff_forall_not_mem]
  intro j hj
  obtain ⟨_, o, ho, hall⟩ := mem_ready.1 hj
  have hlt : j < ops.size := (Array.getElem?_eq_some_iff.1 ho).1
  have : j ∈ Region.ready .any ops Lp := by
    rw [mem_ready]
    refine ⟨?_, o, ho, fun e he hb => hLp _ (hall e he hb)⟩
    rw [getD_lt (by rw [I.szp]; exact hlt)]
    cases hc : Lp.getD j false with
    | false => rfl
    | true => have h9 := I.lpr j hc; rw [getF hj] at h9; cases h9
  rw [h1] at this; cases this
theorem draw2_ok (hcall : CallSound P w0 call) (hs : Region.noSelect ops = true) (hback : backO ops 0 ops.toList = true) {φ0 : Phi} {H0 : AH} {F' : AF} {H' : AH} :
    ∀ (m n : Nat) {pl : List Nat} {pd : List (Nat × AV × List Nat)} {Lp : Array Bool} {F : AF} {H : AH} {φ : Phi} {pv : List PV} {E : List ER} {R : List Nat} {Lr : Array Bool} {a : Act} {w : World}, n + pl.length ≤ m → R.length ≤ n → (∀ j ∈ R, j < ops.size) →
    Inv P w0 call ops φ0 H0 F' H' pl pd Lp F H φ pv E R Lr a w →
    wpAnyG P ops (fun e a w => e = .normal ∧ ∃ φ', φ0.le φ' ∧ Rel w0 φ' H' w ∧ Keep H0 H' ∧ FR φ' F' a) (GP P ops pv) n Lr a w := by
  intro m
  induction m with
  | zero =>
    intro n pl pd Lp F H φ pv E R Lr a w hm hn hR I
    have hpl : pl = [] := List.length_eq_zero_iff.1 (by omega)
    subst hpl
    exact draw2_end I n
  | succ m ih =>
    intro n pl pd Lp F H φ pv E R Lr a w hm hn hR I
    cases pl with
    | nil => exact draw2_end I n
    | cons i r =>
      simp only [List.length_cons] at hm
      by_cases hE : ∃ e ∈ E, e.i = i
      · obtain ⟨e, he, hei⟩ := hE
        obtain ⟨F1, H1, φ1, I1⟩ := I.catch_ he hei
        exact ih n (by omega) hn hR I1
      · obtain ⟨o, pd1, F1, H1, ho, hg, hrdy, run1, chk1, hst⟩ := run2_inv I.run
        have hsel := fun (j : Nat) (o : Oper) cs b hj => Region.noSelect_spec hs j o cs b hj
        have hlt : i < ops.size := (Array.getElem?_eq_some_iff.1 ho).1
        obtain ⟨hpu, o', ho', hall⟩ := mem_ready.1 hrdy
        rw [ho] at ho'; cases ho'
        have hu : Lr.getD i false = false := by
          cases hc : Lr.getD i false with
          | false => rfl
          | true =>
            rcases I.lrE i hc with h | h
            · have := getF hrdy
              rw [this] at h; cases h
            · exact absurd h hE
        have hir : i ∈ Region.ready .any ops Lr := by
          rw [mem_ready]
          exact ⟨by rw [getD_lt (by rw [I.szr]; exact hlt)]; exact hu, o, ho, fun e he hb => I.lpr _ (hall e he hb)⟩
        have hiR := I.rl i hlt hu
        obtain ⟨n, rfl⟩ : ∃ k, n = k + 1 := ⟨n - 1, by have := List.length_pos_of_mem hiR; omega⟩
        have hRl : (R.erase i).length ≤ n := by rw [List.length_erase_of_mem hiR]; omega
        have hR1 : ∀ j ∈ R.erase i, j < ops.size := fun j hj => hR j (List.mem_of_mem_erase hj)
        obtain ⟨o1, o2, o3⟩ := ordOK_head ho I.ord
        have hfree : ∀ j oj, ops[j]? = some oj → j ≠ i → Lr.getD j true = false → (∀ e ∈ oj.after, Region.binds .any e = true → e.on ≠ i) → o.apart ops oj = true := by
          intro j oj hoj hji hun hno
          have hjl : j < ops.size := (Array.getElem?_eq_some_iff.1 hoj).1
          rw [getD_lt (by rw [I.szr]; exact hjl)] at hun
          have hjp : j ∈ r := by
            rcases List.mem_cons.1 (I.inpl hjl hun) with h | h
            · exact absurd h hji
            · exact h
          obtain ⟨b, hb, hp⟩ := o2 j hjp
          rw [hoj] at hb; cases hb
          refine apart_mk (fun d hd hm => ?_) hp.two hp.one
          obtain ⟨e, he, hbd, hon⟩ := hp.three d hd hm
          exact hno e he hbd hon
        have hpvd : ∀ p ∈ pv, ∃ oq, ops[p.q]? = some oq ∧ ∀ d, o.dst = some d → d ∉ oq.looksAt ops := by
          intro p hp
          obtain ⟨b, hb⟩ := I.pr.mem hp
          obtain ⟨oq, h1, _, h3⟩ := I.pq _ hb
          exact ⟨oq, h1, fun d hd => h3 i (List.mem_cons_self ..) o ho d hd⟩
        have hnA : noneIn i pd = true → ∀ p ∈ pv, i ∉ p.A := by
          intro h p hp
          obtain ⟨b, hb⟩ := I.pr.mem hp
          exact noneIn_mem h hb
        have hpq1 : ∀ p ∈ pd, ∃ oq, ops[p.1]? = some oq ∧ oq.guard = none ∧ ∀ j ∈ r, ∀ o, ops[j]? = some o → ∀ d, o.dst = some d → d ∉ oq.looksAt ops := by
          intro p hp
          obtain ⟨oq, h1, h2, h3⟩ := I.pq p hp
          exact ⟨oq, h1, h2, fun j hj => h3 j (List.mem_cons_of_mem _ hj)⟩
        have hchoice : closedOK P ops Lp i = true → ∀ j ∈ Region.ready .any ops Lr, j = i ∨ Ev.early P ops j = true := by
          intro hc j hj
          refine closed_choice hback hc I.szp I.szr hu (fun x hx => ?_) I.lpr hj
          rcases I.lrE x hx with h | ⟨e, he, rfl⟩
          · exact .inl h
          · obtain ⟨_, g2, _, _, g5⟩ := I.epl e he
            refine .inr fun oo hoo e' he' hb' => ?_
            rw [g2] at hoo; cases hoo
            exact g5 e' he' hb'
        have hearly : ∀ j ∈ Region.ready .any ops Lr, Ev.early P ops j = true → wpOp P ops (fun e a w => e = .normal ∧ ∃ φ', φ0.le φ' ∧ Rel w0 φ' H' w ∧ Keep H0 H' ∧ FR φ' F' a) j (fun a' w' => GP P ops pv (Lr.setIfInBounds j true) a' w' ∧ wpAnyG P ops (fun e a w => e = .normal ∧ ∃ φ', φ0.le φ' ∧ Rel w0 φ' H' w ∧ Keep H0 H' ∧ FR φ' F' a) (GP P ops pv) n (Lr.setIfInBounds j true) a' w') a w := by
          intro j hj he
          refine I.early_step hs hR hj he fun E' a' w' I' => ⟨I'.gp, ih n (by simp only [List.length_cons]; omega) ?_ (fun k hk => hR k (List.mem_of_mem_erase hk)) I'⟩
          have hjR := I.rl j (by obtain ⟨_, oj, hoj, _⟩ := mem_ready.1 hj; exact (Array.getElem?_eq_some_iff.1 hoj).1) (getF hj)
          rw [List.length_erase_of_mem hjR]; omega
        cases hst with
        | free a0 _ hk hp hput hni =>
          obtain ⟨v, hv1, hv2⟩ := pureA_ok (I.evh ho) hp
          have I1 := I.both hs ho hir run1 chk1 hput hv2 (Phi.le_refl _) (Keep.refl _) I.rel I.pr hpq1
          exact wpAnyG_free (G := GP P ops pv) ho hsel (fun c a w hc => by cases hc.1) (fun L a w g => GP.unput hs g (fun p hp => ⟨hpvd p hp, hnA hni p hp⟩)) _ Lr a w hfree hir (.inl ⟨wanted_none hg _, hv1⟩) I1.gp (ih n (by omega) hRl hR1 I1)
        | read a0 _ Er A hk hnew hp hput hni hwi hiA hun hju =>
          have hne : earlyO P o = false := by unfold earlyO; rw [hk, hnew]; rfl
          have hev := I.evx
          rw [dirty_not ho hne] at hev
          obtain ⟨v, hv1, hv2⟩ := readA_ok (P := P) hev hp I.rel
          have hiA' : i ∉ A := by intro hm; rw [hasN_iff.2 hm] at hiA; cases hiA
          have hEj := justified_mem (ops := ops) (i := i) (E := Er) hju
          have hEu := unlisted_mem hun
          have hEc : ∀ x, x ∈ Er → Lr.getD x false = false := by
            intro x
            induction x using Nat.strongRecOn with
            | ind x ihx =>
              intro hx
              cases hc : Lr.getD x false with
              | false => rfl
              | true =>
                exfalso
                rcases I.lrE x hc with h | ⟨e, he, rfl⟩
                · rw [hEu x hx] at h; cases h
                · obtain ⟨_, g2, _, _, g5⟩ := I.epl e he
                  obtain ⟨ed, h1, h2, h3⟩ := hEj e.i hx e.o g2
                  have h4 := g5 ed h1 h2
                  rcases h3 with h3 | h3
                  · rw [h3, hu] at h4; cases h4
                  · rw [ihx ed.on (back_at hback g2 ed h1 h2) h3] at h4; cases h4
          have I1 := I.both hs ho hir run1 chk1 hput hv2 (Phi.le_refl _) (Keep.refl _) I.rel (pv1 := ⟨i, v, A⟩ :: pv) (by simp only [PR]; exact ⟨v, pv, rfl, hv2, I.pr⟩) (by
            intro p hp
            rcases List.mem_cons.1 hp with rfl | hp
            · refine ⟨o, ho, hg, fun j hj oj hoj => ?_⟩
              obtain ⟨b, hb, hpp⟩ := o2 j hj
              rw [hoj] at hb; cases hb
              exact hpp.one
            · exact hpq1 p hp)
          have hy : YieldsW P ops o v a w := .inl ⟨wanted_none hg _, hv1⟩
          have hG1 := I1.gp
          refine wpAnyG_read ho hsel (fun c a w hc => by cases hc.1) hEj (G1 := GP P ops (⟨i, v, A⟩ :: pv)) (fun L a w g p hp hc => g p (List.mem_cons_of_mem _ hp) hc) ?_ _ Lr a w hfree hir hEc hy (fun p hp hc => hG1 p (List.mem_cons_of_mem _ hp) hc) (ih n (by omega) hRl hR1 I1)
          intro L2 a2 w2 hcl g
          refine ⟨GP.unput hs (fun p hp hc => g p (List.mem_cons_of_mem _ hp) hc) (fun p hp => ⟨hpvd p hp, hnA hni p hp⟩), ?_⟩
          obtain ⟨o2', ho2', hy2⟩ := g ⟨i, v, A⟩ (List.mem_cons_self ..) (fun x hx => by
            rw [getD_set_ne false (by rintro rfl; exact hiA' hx)]; exact hcl x (within_mem hwi x hx))
          simp only [ho, Option.some.injEq] at ho2'
          subst ho2'
          exact (YieldsW.put (fun cs b => hsel _ o cs b ho) o1).1 hy2
        | new k ao d _ hk hnew hp hd hput hroom hc =>
          obtain ⟨ob, h1, h2⟩ := newA_ok (P := P) (I.evh ho) hp
          refine ⟨fun h0 => (by rw [h0] at hir; cases hir), fun j hj => ?_⟩
          by_cases hji : j = i
          · subst hji
            refine wpOp_of_wp ho (wanted_none hg _) ?_
            unfold Oper.wp
            rw [h2 w, Oper.upon_value]
            have I1 := I.both hs ho hir run1 chk1 hput (v := k.val w.heap.size) (NK.vr (ext_same _ _ _)) (ext_le (I.rel.dom _ (Nat.le_refl _))) (AH.add_keep hroom) (I.rel.alloc hroom h1) (I.pr.mono (ext_le (I.rel.dom _ (Nat.le_refl _)))) hpq1
            exact ⟨I1.gp, ih n (by omega) hRl hR1 I1⟩
          · exact hearly j hj ((hchoice hc j hj).resolve_left hji)
        | act a0 _ _ hk hnew hp hput hc hx =>
          have hne : earlyO P o = false := by unfold earlyO; rw [beq_false hk, hnew]; rfl
          have hev := I.evx
          rw [dirty_not ho hne] at hev
          refine ⟨fun h0 => (by rw [h0] at hir; cases hir), fun j hj => ?_⟩
          by_cases hji : j = i
          · subst hji
            refine wpOp_of_wp ho (wanted_none hg _) (opValX_ok (w0 := ⟨w0.w, fzE E ++ w0.fz⟩) hcall hev hp I.rel ?_ ?_)
            · intro c φ1 v w1 hcc hle1 hv hr hk1
              cases hcc
              have I1 := I.both hs ho hir run1 chk1 hput hv hle1 hk1 hr (I.pr.mono hle1) hpq1
              exact ⟨I1.gp, ih n (by omega) hRl hR1 I1⟩
            · intro c φ1 v w1 hcc; cases hcc
          · exact hearly j hj ((hchoice hc j hj).resolve_left hji)
theorem drawn2_ok (hcall : CallSound P w0 call) (hm : P.follows .mixedOrders = true) {id : Nat} {F F' : AF} {H H' : AH} {x : AX} {φ : Phi} {a : Act} {w : World} (h : drawn2 P call ops F H = .ok (x, F', H')) (r : Rel w0 φ H w) (k : FR φ F a) :
    (Code.region id ops true).wp P (Post w0 φ H x F' H') a w := by
  unfold drawn2 at h
  generalize mkOrder P ops ops.size (Array.replicate ops.size false) = pl at h
  unfold drawn2By at h
  cases hc : planned2 ops pl with
  | false => rw [hc] at h; cases h
  | true =>
    rw [hc, cond_true] at h
    unfold planned2 at hc
    simp only [Bool.and_eq_true] at hc
    obtain ⟨⟨⟨c1, c2⟩, c3⟩, c4⟩ := hc
    split at h
    · rename_i F1 H1 hd
      simp only [Rs.ok.injEq, Prod.mk.injEq] at h
      obtain ⟨rfl, rfl, rfl⟩ := h
      have hcov : ∀ n, coversO pl n = true → ∀ j, j < n → j ∈ pl := by
        intro n
        induction n with
        | zero => intro _ j hj; omega
        | succ n ih =>
          intro h j hj
          simp only [coversO, Bool.and_eq_true] at h
          by_cases e : j = n
          · subst e; exact hasN_iff.1 h.1
          · exact ih h.2 j (by omega)
      have hrep : ∀ j, (Array.replicate ops.size false).getD j false = false := by
        intro j
        by_cases hj : j < ops.size <;> simp [hj]
      have hnil : IdsOK ([] : List ER) := fun e he => (by cases he)
      have I : Inv P w0 call ops φ H F1 H1 pl [] (Array.replicate ops.size false) F H φ [] [] (List.range ops.size) (Array.replicate ops.size false) a { w with drawn := w.drawn + 1 } :=
        { run := hd, ord := c1, le0 := Phi.le_refl _, keep := Keep.refl _, rel := r.drew ⟨1, rfl⟩, fsz := k.size, fw := fun t ht _ => k.tm t ht, df := k.df,
          fl := fun t ht hmt => by
            obtain ⟨q1, _, _, _, q5⟩ := run2_later hd
            rw [q5 t (fun j hj o ho => hmt j (List.mem_range.2 (Array.getElem?_eq_some_iff.1 ho).1) o ho)]
            exact k.tm t (by rw [← q1]; exact ht)
          pr := by simp [PR], chk := rfl, szr := by simp, szp := by simp, lpr := fun x hx => hx, lrE := fun x hx => .inl hx, rl := fun j hj _ => List.mem_range.2 hj, rm := fun j _ => hrep j, rn := List.nodup_range, cov := fun j hj _ => hcov _ c3 j hj, epl := fun e he => (by cases he), eok := fun e he => (by cases he), ids := hnil, xs := fun e he => (by cases he), enu := fun e he => (by cases he), pq := fun p hp => (by cases hp) }
      have k2 := draw2_ok hcall c4 c2 (ops.size + pl.length) ops.size (Nat.le_refl _) (by simp) (fun j hj => List.mem_range.1 hj) I
      refine wp_mono (wp_region_any hm (wpAnyG_any _ _ _ _ k2)) ?_
      rintro e a' w' ⟨rfl, φ', g1, g2, g3, g4⟩
      exact ⟨φ', g1, g2, g3, g4, rfl⟩
    · cases h
noncomputable def drawnAny (P : Program) (call : Nat → List AV → AH → Rs (CR × AH)) (ops : Array Oper) (F : AF) (H : AH) : Rs (AX × AF × AH) :=
  bif planned P ops (mkPlanQ (OIs P ops) ops.size 0) (OIs P ops) then runBy P call ops (mkPlanQ (OIs P ops) ops.size 0) F H else drawn2 P call ops F H
theorem drawnAny_ok (hcall : CallSound P w0 call) (hm : P.follows .mixedOrders = true) {id : Nat} {F F' : AF} {H H' : AH} {x : AX} {φ : Phi} {a : Act} {w : World} (h : drawnAny P call ops F H = .ok (x, F', H')) (r : Rel w0 φ H w) (k : FR φ F a) :
    (Code.region id ops true).wp P (Post w0 φ H x F' H') a w := by
  unfold drawnAny at h
  cases hc : planned P ops (mkPlanQ (OIs P ops) ops.size 0) (OIs P ops) with
  | false => rw [hc, cond_false] at h; exact drawn2_ok hcall hm h r k
  | true =>
    refine drawnQ_ok hcall hm ?_ r k
    rw [hc, cond_true] at h
    unfold drawnQ
    rw [hc, cond_true]; exact h
end
end Ev
end Go.Proofs.YtaegacblpbbndaaDoor
end
