/- The texts EvO of the proof, joined. Each says at its theorems what it proves. -/
import Derived.Test.YtaegacblpbbndaaDoorJ19
set_option linter.unusedSimpArgs false
set_option linter.unusedVariables false
section
namespace Go.Proofs.YtaegacblpbbndaaDoor
open Go Go.RowKit
set_option linter.unusedSimpArgs false
set_option linter.unusedVariables false
namespace Ev
section
variable {P : Program} {call : Nat → List AV → AH → Rs (CR × AH)} {ops : Array Oper}
inductive StepK (P : Program) (call : Nat → List AV → AH → Rs (CR × AH)) (ops : Array Oper) (i : Nat) (o : Oper) (r : List Nat) (pd : List (Nat × AV × List Nat)) (L : Array Bool) (F : AF) (H : AH) : List (Nat × AV × List Nat) → AF → AH → Prop
  | free (a : AV) (F1 : AF) (hk : kindOf P o = 0) (hp : pureA P (evL ops o F) o = some a) (hput : F.put o.dst a = some F1) (hn : noneIn i pd = true) : StepK P call ops i o r pd L F H pd F1 H
  | read (a : AV) (F1 : AF) (E A : List Nat) (hk : kindOf P o = 1) (hnew : isNew o = false) (hp : readA P (evX F (dirty P ops r)) o H = some a) (hput : F.put o.dst a = some F1) (hn : noneIn i pd = true) (hw : within_ E A = true) (hi : hasN A i = false)
      (hu : unlisted L E = true) (hj : justified ops i E E = true) : StepK P call ops i o r pd L F H ((i, a, A) :: pd) F1 H
  | new (k : NK) (ao : AO) (d : Nat) (F1 : AF) (hk : kindOf P o ≠ 0) (hnew : isNew o = true) (hp : newA P (evL ops o F) o = some (k, ao)) (hd : o.dst = some d) (hput : F.put o.dst (k.av H.nx) = some F1) (hr : H.roomy = true) (hc : closedOK P ops L i = true) : StepK P call ops i o r pd L F H pd F1 (H.add ao)
  | act (a : AV) (F1 : AF) (H1 : AH) (hk : kindOf P o ≠ 0) (hnew : isNew o = false) (hp : opValX P call (evX F (dirty P ops r)) o H = .ok (.ret a, H1)) (hput : F.put o.dst a = some F1) (hc : closedOK P ops L i = true) (hx : H.nx ≤ H1.nx) : StepK P call ops i o r pd L F H pd F1 H1
theorem beqN {a b : Nat} (h : Nat.beq a b = false) : a ≠ b := by rintro rfl; rw [Nat.beq_refl] at h; cases h
theorem run2_inv {i : Nat} {r : List Nat} {pd : List (Nat × AV × List Nat)} {L : Array Bool} {F F' : AF} {H H' : AH} (h : drawRun2 P call ops (i :: r) pd L F H = .ok (F', H')) :
    ∃ o pd1 F1 H1, ops[i]? = some o ∧ o.guard = none ∧ i ∈ Region.ready .any ops L ∧ drawRun2 P call ops r pd1 (L.setIfInBounds i true) F1 H1 = .ok (F', H') ∧
      recheck P ops (evX F1 (dirty P ops r)) H1 (L.setIfInBounds i true) pd1 = true ∧ StepK P call ops i o r pd L F H pd1 F1 H1 := by
  unfold drawRun2 at h
  split at h
  · cases h
  · rename_i o ho
    have ho' : ops[i]? = some o := by simpa using ho
    cases hg : (o.guard.isSome || !hasN (Region.ready .any ops L) i) with
    | true => rw [hg] at h; cases h
    | false =>
      rw [hg, cond_false] at h
      simp only [Bool.or_eq_false_iff, Bool.not_eq_false', Option.isSome_eq_false_iff, Option.isNone_iff_eq_none] at hg
      have hr := hasN_iff.1 hg.2
      cases h0 : Nat.beq (kindOf P o) 0 with
      | true =>
        rw [h0, cond_true] at h
        split at h
        · rename_i a ha
          split at h
          · rename_i F1 hp
            cases hc : (recheck P ops (evX F1 (dirty P ops r)) H (L.setIfInBounds i true) pd && noneIn i pd) with
            | false => rw [hc] at h; cases h
            | true =>
              rw [hc, cond_true] at h
              simp only [Bool.and_eq_true] at hc
              exact ⟨o, pd, F1, H, ho', hg.1, hr, h, hc.1, .free a F1 (Nat.eq_of_beq_eq_true h0) ha hp hc.2⟩
          · cases h
        · cases h
      | false =>
        rw [h0, cond_false] at h
        cases h1 : (Nat.beq (kindOf P o) 1 && !isNew o) with
        | true =>
          rw [h1, cond_true] at h
          simp only [Bool.and_eq_true, Bool.not_eq_true'] at h1
          split at h
          · rename_i a ha
            split at h
            · rename_i F1 hp
              simp only at h
              generalize dependsOn ops i L (List.range ops.size) [] = E at h
              generalize actsOf P ops E = A at h
              cases hc : (recheck P ops (evX F1 (dirty P ops r)) H (L.setIfInBounds i true) ((i, a, A) :: pd) && noneIn i pd && within_ E A && !hasN A i && unlisted L E && justified ops i E E) with
              | false => rw [hc] at h; cases h
              | true =>
                rw [hc, cond_true] at h
                simp only [Bool.and_eq_true, Bool.not_eq_true'] at hc
                obtain ⟨⟨⟨⟨⟨c1, c2⟩, c3⟩, c4⟩, c5⟩, c6⟩ := hc
                exact ⟨o, _, F1, H, ho', hg.1, hr, h, c1, .read a F1 E A (Nat.eq_of_beq_eq_true h1.1) h1.2 ha hp c2 c3 c4 c5 c6⟩
            · cases h
          · cases h
        | false =>
          rw [h1, cond_false] at h
          cases h2 : isNew o with
          | true =>
            rw [h2, cond_true] at h
            split at h
            · rename_i k ao ha
              split at h
              · rename_i F1 hp
                cases hc : (recheck P ops (evX F1 (dirty P ops r)) (H.add ao) (L.setIfInBounds i true) pd && H.roomy && closedOK P ops L i && o.dst.isSome) with
                | false => rw [hc] at h; cases h
                | true =>
                  rw [hc, cond_true] at h
                  simp only [Bool.and_eq_true] at hc
                  obtain ⟨⟨⟨c1, c2⟩, c3⟩, c4⟩ := hc
                  obtain ⟨d, hd⟩ := Option.isSome_iff_exists.1 c4
                  exact ⟨o, pd, F1, _, ho', hg.1, hr, h, c1, .new k ao d F1 (beqN h0) h2 ha hd hp c2 c3⟩
              · cases h
            · cases h
          | false =>
            rw [h2, cond_false] at h
            split at h
            · rename_i a H1 ha
              split at h
              · rename_i F1 hp
                cases hc : (recheck P ops (evX F1 (dirty P ops r)) H1 (L.setIfInBounds i true) pd && closedOK P ops L i && Nat.ble H.nx H1.nx) with
                | false => rw [hc] at h; cases h
                | true =>
                  rw [hc, cond_true] at h
                  simp only [Bool.and_eq_true] at hc
                  exact ⟨o, pd, F1, H1, ho', hg.1, hr, h, hc.1.1, .act a F1 H1 (beqN h0) h2 ha hp hc.1.2 (ble_of hc.2)⟩
              · cases h
            · cases h
            · cases h
theorem run2_nil {pd : List (Nat × AV × List Nat)} {L : Array Bool} {F F' : AF} {H H' : AH} (h : drawRun2 P call ops [] pd L F H = .ok (F', H')) : Region.ready .any ops L = [] ∧ F' = F ∧ H' = H := by
  unfold drawRun2 at h
  split at h
  · rename_i hr; cases h; exact ⟨hr, rfl, rfl⟩
  · cases h
theorem AF.put_none {F F1 : AF} {a : AV} (h : F.put none a = some F1) : F1 = F := by unfold AF.put at h; cases h; rfl
theorem AF.put_some {F F1 : AF} {d : Nat} {a : AV} (h : F.put (some d) a = some F1) : F1.n = F.n ∧ F1.df = F.df ∧ d < F.n ∧ F1.get d = a ∧ ∀ t, t ≠ d → F1.get t = F.get t := by
  unfold AF.put at h
  cases hb : (Nat.blt d F.n && Nat.ble F.n 256) with
  | false => simp only [hb, cond_false, reduceCtorEq] at h
  | true =>
    simp only [hb, cond_true, Option.some.injEq] at h
    subst h
    simp only [Bool.and_eq_true] at hb
    have hd : d < F.n := by simpa [Nat.blt_eq] using hb.1
    have hn := ble_of hb.2
    refine ⟨rfl, rfl, hd, ?_, fun t ht => AF.get_of fun h2 => ?_⟩
    · rw [AF.get_lt (by omega)]; exact Fr.get_set_same a F.tm d (by omega)
    · exact Fr.get_set_other a F.tm d t (by omega) h2 ht
theorem AF.put_any {F F1 : AF} {dst : Option Nat} {a : AV} (h : F.put dst a = some F1) : F1.n = F.n ∧ F1.df = F.df ∧ (∀ d, dst = some d → d < F.n ∧ F1.get d = a) ∧ ∀ t, dst ≠ some t → F1.get t = F.get t := by
  cases dst with
  | none => rw [AF.put_none h]; exact ⟨rfl, rfl, fun d hd => (by cases hd), fun t _ => rfl⟩
  | some d =>
    obtain ⟨h1, h2, h3, h4, h5⟩ := AF.put_some h
    exact ⟨h1, h2, fun e he => (by cases he; exact ⟨h3, h4⟩), fun t ht => h5 t (fun e => ht (by rw [e]))⟩
theorem StepK.put {i : Nat} {o : Oper} {r : List Nat} {pd pd1 : List (Nat × AV × List Nat)} {L : Array Bool} {F F1 : AF} {H H1 : AH} (h : StepK P call ops i o r pd L F H pd1 F1 H1) : (∃ a, F.put o.dst a = some F1) ∧ H.nx ≤ H1.nx := by
  cases h with
  | free a _ _ _ hp _ => exact ⟨⟨a, hp⟩, Nat.le_refl _⟩
  | read a _ _ _ _ _ _ hp => exact ⟨⟨a, hp⟩, Nat.le_refl _⟩
  | new k ao d _ _ _ _ _ hp => exact ⟨⟨_, hp⟩, Nat.le_succ _⟩
  | act a _ _ _ _ _ hp _ hx => exact ⟨⟨a, hp⟩, hx⟩
theorem run2_later : ∀ {pl : List Nat} {pd : List (Nat × AV × List Nat)} {L : Array Bool} {F F' : AF} {H H' : AH}, drawRun2 P call ops pl pd L F H = .ok (F', H') →
    F'.n = F.n ∧ F'.df = F.df ∧ H.nx ≤ H'.nx ∧ (∀ j ∈ pl, L.getD j true = false) ∧ ∀ t, (∀ j ∈ pl, ∀ o, ops[j]? = some o → o.dst ≠ some t) → F'.get t = F.get t
  | [], pd, L, F, F', H, H', h => by obtain ⟨_, rfl, rfl⟩ := run2_nil h; exact ⟨rfl, rfl, Nat.le_refl _, fun j hj => (by cases hj), fun _ _ => rfl⟩
  | i :: r, pd, L, F, F', H, H', h => by
    obtain ⟨o, pd1, F1, H1, ho, hg, hr, h1, _, hs⟩ := run2_inv h
    obtain ⟨⟨a, hp⟩, hx⟩ := hs.put
    obtain ⟨p1, p2, p3, p4⟩ := AF.put_any hp
    obtain ⟨q1, q2, q3, q4, q5⟩ := run2_later h1
    refine ⟨q1.trans p1, q2.trans p2, Nat.le_trans hx q3, fun j hj => ?_, fun t ht => ?_⟩
    · rcases List.mem_cons.1 hj with rfl | hj
      · exact (mem_ready.1 hr).1
      · have := q4 j hj
        by_cases e : i = j
        · subst e; exact (mem_ready.1 hr).1
        · rw [getD_set_ne true e] at this; exact this
    · rw [q5 t (fun j hj => ht j (List.mem_cons_of_mem _ hj)), p4 t (ht i (List.mem_cons_self ..) o ho)]
structure PairO (ops : Array Oper) (i : Nat) (a b : Oper) : Prop where
  one : ∀ d, b.dst = some d → d ∉ a.looksAt ops
  two : ∀ d, a.dst = some d → b.dst ≠ some d
  three : ∀ d, a.dst = some d → d ∈ b.looksAt ops → ∃ e ∈ b.after, Region.binds .any e = true ∧ e.on = i
theorem edgeTo_iff {o : Oper} {i : Nat} : edgeTo o i = true ↔ ∃ e ∈ o.after, Region.binds .any e = true ∧ e.on = i := by
  unfold edgeTo
  simp only [List.any_eq_true, Array.mem_toList_iff, Bool.and_eq_true]
  constructor
  · rintro ⟨e, h1, h2, h3⟩; exact ⟨e, h1, h2, Nat.eq_of_beq_eq_true h3⟩
  · rintro ⟨e, h1, h2, rfl⟩; exact ⟨e, h1, h2, Nat.beq_refl _⟩
theorem dstIn_false {o : Oper} {l : List Nat} (h : dstIn o l = false) : ∀ d, o.dst = some d → d ∉ l := by
  intro d hd hm
  unfold dstIn at h
  rw [hd] at h
  simp only at h
  rw [hasN_iff.2 hm] at h; cases h
theorem pairO_ok {i : Nat} {a b : Oper} (h : pairO ops i a b = true) : PairO ops i a b := by
  unfold pairO at h
  simp only [Bool.and_eq_true, Bool.not_eq_true', Bool.or_eq_true] at h
  obtain ⟨⟨h1, h2⟩, h3⟩ := h
  refine ⟨dstIn_false h1, ?_, ?_⟩
  · intro d hd hb
    unfold dstSame at h2
    rw [hd, hb] at h2
    simp only at h2
    rw [Nat.beq_refl] at h2; cases h2
  · intro d hd hm
    rcases h3 with h3 | h3
    · exact absurd hm (dstIn_false h3 d hd)
    · exact edgeTo_iff.1 h3
theorem rowO_mem {i : Nat} {a : Oper} : ∀ {l : List Nat} {j : Nat}, rowO ops i a l = true → j ∈ l → ∃ b, ops[j]? = some b ∧ PairO ops i a b
  | [], _, _, h => by cases h
  | k :: l, j, h, hj => by
    simp only [rowO, Bool.and_eq_true] at h
    rcases List.mem_cons.1 hj with rfl | hj
    · have h1 := h.1
      split at h1
      · rename_i b hb; exact ⟨b, by simpa using hb, pairO_ok h1⟩
      · cases h1
    · exact rowO_mem h.2 hj
theorem ordOK_head {i : Nat} {l : List Nat} {o : Oper} (ho : ops[i]? = some o) (h : ordOK ops (i :: l) = true) : (∀ d, o.dst = some d → d ∉ o.looksAt ops) ∧ (∀ j ∈ l, ∃ b, ops[j]? = some b ∧ PairO ops i o b) ∧ ordOK ops l = true := by
  simp only [ordOK, Bool.and_eq_true] at h
  have h1 := h.1
  have ho' : ops.toList[i]? = some o := by simpa using ho
  rw [ho'] at h1
  simp only [Bool.and_eq_true, Bool.not_eq_true'] at h1
  exact ⟨dstIn_false h1.1, fun j hj => rowO_mem h1.2 hj, h.2⟩
theorem evL_eq {o : Oper} {F F' : AF} (hn : F'.n = F.n) (h : ∀ t ∈ o.looksAt ops, F'.get t = F.get t) : evL ops o F' = evL ops o F := by
  funext x
  cases x with
  | tmp t =>
    simp only [evL]
    cases hh : hasN (o.looksAt ops) t with
    | false => rfl
    | true =>
      simp only [cond_true, evF]
      rw [hn, h t (hasN_iff.1 hh)]
  | const v => rfl
  | global g => rfl
  | func f => rfl
inductive LocalOK (P : Program) (ops : Array Oper) (F' : AF) (nx : Nat) (o : Oper) : Prop
  | free (a : AV) (hk : kindOf P o = 0) (hp : pureA P (evL ops o F') o = some a) (hd : ∀ d, o.dst = some d → d < F'.n ∧ F'.get d = a)
  | new (k : NK) (ao : AO) (d b : Nat) (hk : kindOf P o ≠ 0) (hnew : isNew o = true) (hp : newA P (evL ops o F') o = some (k, ao)) (hd : o.dst = some d) (hlt : d < F'.n) (hv : F'.get d = k.av b) (hb : nx ≤ b)
theorem LocalOK.le {F' : AF} {nx nx' : Nat} {o : Oper} (h : LocalOK P ops F' nx o) (hle : nx' ≤ nx) : LocalOK P ops F' nx' o := by
  cases h with
  | free a hk hp hd => exact .free a hk hp hd
  | new k ao d b hk hnew hp hd hlt hv hb => exact .new k ao d b hk hnew hp hd hlt hv (Nat.le_trans hle hb)
theorem run2_local : ∀ {pl : List Nat} {pd : List (Nat × AV × List Nat)} {L : Array Bool} {F F' : AF} {H H' : AH}, drawRun2 P call ops pl pd L F H = .ok (F', H') → ordOK ops pl = true →
    ∀ j ∈ pl, ∀ o, ops[j]? = some o → earlyO P o = true → LocalOK P ops F' H.nx o
  | [], _, _, _, _, _, _, _, _, _, hj, _, _, _ => by cases hj
  | i :: r, pd, L, F, F', H, H', h, hord, j, hj, oj, hoj, he => by
    obtain ⟨o, pd1, F1, H1, ho, hg, hr, h1, _, hs⟩ := run2_inv h
    obtain ⟨o1, o2, o3⟩ := ordOK_head ho hord
    obtain ⟨q1, _, _, _, q5⟩ := run2_later h1
    rcases List.mem_cons.1 hj with rfl | hj
    · have hoo : o = oj := by rw [ho] at hoj; exact Option.some.inj hoj
      subst hoo
      obtain ⟨⟨a0, hp0⟩, _⟩ := hs.put
      obtain ⟨p1, _, p3, p4⟩ := AF.put_any hp0
      have hlook : ∀ t, t ∈ o.looksAt ops → F'.get t = F.get t := by
        intro t ht
        rw [q5 t (fun k hk ok hok hd => ?_), p4 t (fun hd => o1 t hd ht)]
        obtain ⟨b, hb, hpr⟩ := o2 k hk
        rw [hb] at hok; cases hok
        exact hpr.one t hd ht
      have hev : evL ops o F' = evL ops o F := evL_eq (q1.trans p1) hlook
      have hdst : ∀ d, o.dst = some d → F'.get d = F1.get d := by
        intro d hd
        refine q5 d fun k hk ok hok hdk => ?_
        obtain ⟨b, hb, hpr⟩ := o2 k hk
        rw [hb] at hok; cases hok
        exact hpr.two d hd hdk
      cases hs with
      | free a _ hk hp hput _ =>
        obtain ⟨_, _, s3, _⟩ := AF.put_any hput
        exact .free a hk (by rw [hev]; exact hp) (fun d hd => ⟨by rw [q1, p1]; exact (s3 d hd).1, by rw [hdst d hd]; exact (s3 d hd).2⟩)
      | read a _ _ _ hk hnew hp hput => unfold earlyO at he; rw [hnew, hk] at he; cases he
      | new k ao d _ hk hnew hp hd hput _ _ =>
        obtain ⟨_, _, s3, _⟩ := AF.put_any hput
        exact .new k ao d H.nx hk hnew (by rw [hev]; exact hp) hd (by rw [q1, p1]; exact (s3 d hd).1) (by rw [hdst d hd]; exact (s3 d hd).2) (Nat.le_refl _)
      | act a _ _ hk hnew _ _ _ _ => unfold earlyO at he; rw [hnew, Bool.or_false] at he; exact absurd (Nat.eq_of_beq_eq_true he) hk
    · exact (run2_local h1 o3 j hj oj hoj he).le hs.put.2
end
end Ev
end Go.Proofs.YtaegacblpbbndaaDoor
end
