/- The texts EvF of the proof, joined. Each says at its theorems what it proves. -/
import Derived.Test.YtaegacblpbbndaaDoorJ16
set_option linter.unusedSimpArgs false
set_option linter.unusedVariables false
section
namespace Go.Proofs.YtaegacblpbbndaaDoor
open Go Go.RowKit
set_option linter.unusedSimpArgs false
set_option linter.unusedVariables false
namespace Ev
inductive PK where
  | free
  | read (E A : List Nat)
  | act
noncomputable def hasN (l : List Nat) (i : Nat) : Bool := match l with
  | [] => false
  | j :: l => Nat.beq j i || hasN l i
theorem hasN_iff : ∀ {l : List Nat} {i : Nat}, hasN l i = true ↔ i ∈ l
  | [], i => by simp [hasN]
  | j :: l, i => by
    simp only [hasN, Bool.or_eq_true, List.mem_cons, hasN_iff (l := l)]
    constructor
    · rintro (h | h)
      · exact .inl (Nat.eq_of_beq_eq_true h).symm
      · exact .inr h
    · rintro (rfl | h)
      · exact .inl (Nat.beq_refl _)
      · exact .inr h
noncomputable def kindOf (P : Program) (o : Oper) : Nat := match o.op with
  | .move _ | .assign _ | .pick .. | .binOp .. | .unOp .. | .convert .. | .makeInterface .. | .makeFunc .. | .extract .. | .nilCheck .. | .fieldAddr .. | .field .. | .indexAddr .. | .index .. | .slice .. | .build .. | .typeAssert .. => 0
  | .load .. | .lookup .. => 1
  | .call c => match c.callee with
    | .builtin .len => match c.argTypes.toList with
      | [t] => match P.underlying t with
        | some (.map _ _) => 1
        | _ => 0
      | _ => 0
    | .builtin .cap => 0
    | .builtin .min => 0
    | .builtin .max => 0
    | .builtin .real => 0
    | .builtin .imag => 0
    | .builtin .complex => 0
    | _ => 2
  | _ => 2
noncomputable def firstK (P : Program) (ops : Array Oper) (k : Nat) : List Nat → Option Nat
  | [] => none
  | i :: l => match ops.toList[i]? with
    | some o => bif Nat.beq (kindOf P o) k then some i else firstK P ops k l
    | none => firstK P ops k l
noncomputable def dependsOn (ops : Array Oper) (i : Nat) (L : Array Bool) : List Nat → List Nat → List Nat
  | [], E => E
  | j :: l, E => bif L.getD j true || Nat.beq j i then dependsOn ops i L l E else match ops.toList[j]? with
    | some o => bif o.after.toList.any (fun e => Region.binds .any e && (Nat.beq e.on i || hasN E e.on)) then dependsOn ops i L l (j :: E) else dependsOn ops i L l E
    | none => dependsOn ops i L l E
noncomputable def actsOf (P : Program) (ops : Array Oper) : List Nat → List Nat
  | [] => []
  | j :: l => match ops.toList[j]? with
    | some o => bif Nat.beq (kindOf P o) 2 then j :: actsOf P ops l else actsOf P ops l
    | none => actsOf P ops l
noncomputable def mkPlan (P : Program) (ops : Array Oper) : Nat → Array Bool → List (Nat × PK)
  | 0, _ => []
  | f + 1, L => match Region.ready .any ops L with
    | [] => []
    | i :: r => match firstK P ops 0 (i :: r) with
      | some j => (j, .free) :: mkPlan P ops f (L.setIfInBounds j true)
      | none => match firstK P ops 1 (i :: r) with
        | some j => (j, .read (dependsOn ops j L (List.range ops.size) []) (actsOf P ops (dependsOn ops j L (List.range ops.size) []))) :: mkPlan P ops f (L.setIfInBounds j true)
        | none => (i, .act) :: mkPlan P ops f (L.setIfInBounds i true)
noncomputable def dstApart (ops : Array Oper) (o q : Oper) : Bool := match o.dst with
  | none => true
  | some d => !hasN (q.looksAt ops) d
noncomputable def justified (ops : Array Oper) (i : Nat) (E : List Nat) : List Nat → Bool
  | [] => true
  | x :: l => (match ops.toList[x]? with
    | some o => o.after.toList.any (fun e => Region.binds .any e && (Nat.beq e.on i || hasN E e.on))
    | none => true) && justified ops i E l
noncomputable def pendOK (ops : Array Oper) (o : Oper) (i : Nat) (act : Bool) : List (Nat × List Nat) → Bool
  | [] => true
  | (q, A) :: l => (match ops.toList[q]? with
    | some oq => dstApart ops o oq
    | none => false) && (act || !hasN A i) && pendOK ops o i act l
noncomputable def unlisted (L : Array Bool) : List Nat → Bool
  | [] => true
  | x :: l => !L.getD x false && unlisted L l
noncomputable def within_ (E : List Nat) : List Nat → Bool
  | [] => true
  | x :: l => hasN E x && within_ E l
noncomputable def planOK (ops : Array Oper) : List (Nat × PK) → List (Nat × List Nat) → Array Bool → Bool
  | [], _, L => (Region.ready .any ops L).isEmpty
  | (i, k) :: r, pd, L => match ops.toList[i]? with
    | none => false
    | some o => match k with
      | .free => hasN (Region.ready .any ops L) i && Region.free .any ops L i && pendOK ops o i false pd && planOK ops r pd (L.setIfInBounds i true)
      | .read E A => hasN (Region.ready .any ops L) i && Region.free .any ops L i && pendOK ops o i false pd && dstApart ops o o && within_ E A && !hasN A i && unlisted L E && justified ops i E E && planOK ops r ((i, A) :: pd) (L.setIfInBounds i true)
      | .act => (match Region.ready .any ops L with | [j] => Nat.beq j i | _ => false) && pendOK ops o i true pd && planOK ops r pd (L.setIfInBounds i true)
noncomputable def anyListed (L : Array Bool) : List Nat → Bool
  | [] => false
  | x :: l => L.getD x false || anyListed L l
noncomputable def recheck (P : Program) (ops : Array Oper) (ev : Operand → Option AV) (H : AH) (L : Array Bool) : List (Nat × AV × List Nat) → Bool
  | [] => true
  | (q, a, A) :: r => (anyListed L A || (match ops.toList[q]? with
    | some o => match readA P ev o H with
      | some b => avEq a b
      | none => false
    | none => false)) && recheck P ops ev H L r
noncomputable def drawRun (P : Program) (call : Nat → List AV → AH → Rs (CR × AH)) (ops : Array Oper) : List (Nat × PK) → List (Nat × AV × List Nat) → Array Bool → AF → AH → Rs (AF × AH)
  | [], _, _, F, H => .ok (F, H)
  | (i, k) :: r, pd, L, F, H => match ops.toList[i]? with
    | none => .bad 10 i
    | some o => match guardA ops F o.guard with
      | none => .bad 11 i
      | some false => match k with
        | .act => match F.put o.dst (.tup []) with
          | some F' => bif recheck P ops (evF F') H (L.setIfInBounds i true) pd then drawRun P call ops r pd (L.setIfInBounds i true) F' H else .bad 16 i
          | none => .bad 12 i
        | _ => match F.put o.dst (.tup []) with
          | some F' => drawRun P call ops r pd (L.setIfInBounds i true) F' H
          | none => .bad 12 i
      | some true => match k with
        | .free => match pureA P (evF F) o with
          | some a => match F.put o.dst a with
            | some F' => drawRun P call ops r pd (L.setIfInBounds i true) F' H
            | none => .bad 12 i
          | none => .bad 13 i
        | .read _ A => match readA P (evF F) o H with
          | some a => match F.put o.dst a with
            | some F' => drawRun P call ops r ((i, a, A) :: pd) (L.setIfInBounds i true) F' H
            | none => .bad 12 i
          | none => .bad 14 i
        | .act => match opValX P call (evF F) o H with
          | .ok (.ret a, H') => match F.put o.dst a with
            | some F' => bif recheck P ops (evF F') H' (L.setIfInBounds i true) pd then drawRun P call ops r pd (L.setIfInBounds i true) F' H' else .bad 16 i
            | none => .bad 12 i
          | .ok (.pan _, _) => .bad 17 i
          | .bad c x => .bad c x
noncomputable def drawnBy (P : Program) (call : Nat → List AV → AH → Rs (CR × AH)) (ops : Array Oper) (pl : List (Nat × PK)) (F : AF) (H : AH) : Rs (AX × AF × AH) :=
  bif planOK ops pl [] (Array.replicate ops.size false) && Region.noSelect ops && Nat.ble pl.length ops.size then
    (match drawRun P call ops pl [] (Array.replicate ops.size false) F H with
      | .ok (F', H') => .ok (.normal, F', H')
      | .bad c x => .bad c x)
  else .bad 18 0
noncomputable def drawn (P : Program) (call : Nat → List AV → AH → Rs (CR × AH)) (ops : Array Oper) (F : AF) (H : AH) : Rs (AX × AF × AH) := drawnBy P call ops (mkPlan P ops ops.size (Array.replicate ops.size false)) F H
section
variable {P : Program} {w0 : Base} {call : Nat → List AV → AH → Rs (CR × AH)} {ops : Array Oper}
structure PV where
  q : Nat
  v : Value
  A : List Nat
def GP (P : Program) (ops : Array Oper) (pv : List PV) (L : Array Bool) (a : Act) (w : World) : Prop :=
  ∀ p ∈ pv, (∀ x ∈ p.A, L.getD x false = false) → ∃ o, ops[p.q]? = some o ∧ YieldsW P ops o p.v a w
def PR (φ : Phi) : List (Nat × AV × List Nat) → List PV → Prop
  | [], l => l = []
  | (q, a, A) :: r, l => ∃ v l', l = ⟨q, v, A⟩ :: l' ∧ VR φ a v ∧ PR φ r l'
theorem PR.mono {φ φ' : Phi} (h : φ.le φ') : ∀ {r : List (Nat × AV × List Nat)} {l : List PV}, PR φ r l → PR φ' r l
  | [], _, k => k
  | (_, _, _) :: _, _, k => by
    simp only [PR] at k ⊢
    obtain ⟨v, l', e, a, b⟩ := k
    exact ⟨v, l', e, a.mono h, PR.mono h b⟩
def PS (pd : List (Nat × AV × List Nat)) (spd : List (Nat × List Nat)) : Prop := ∀ p ∈ pd, (p.1, p.2.2) ∈ spd
theorem PR.mem {φ : Phi} : ∀ {r : List (Nat × AV × List Nat)} {l : List PV} {p : PV}, PR φ r l → p ∈ l → ∃ a, (p.q, a, p.A) ∈ r
  | [], _, _, k, h => by simp only [PR] at k; subst k; simp at h
  | (q, a, A) :: r, _, p, k, h => by
    simp only [PR] at k
    obtain ⟨v, l', rfl, _, k2⟩ := k
    rcases List.mem_cons.1 h with rfl | h
    · exact ⟨a, by simp⟩
    · obtain ⟨b, hb⟩ := PR.mem k2 h; exact ⟨b, by simp [hb]⟩
theorem pendOK_mem {o : Oper} {i : Nat} {act : Bool} : ∀ {l : List (Nat × List Nat)} {q : Nat} {A : List Nat}, pendOK ops o i act l = true → (q, A) ∈ l → (∃ oq, ops[q]? = some oq ∧ ∀ d, o.dst = some d → d ∉ oq.looksAt ops) ∧ (act = false → i ∉ A)
  | [], _, _, _, h => by simp at h
  | (q', A') :: l, q, A, k, h => by
    simp only [pendOK, Bool.and_eq_true, Bool.or_eq_true, Bool.not_eq_true'] at k
    obtain ⟨⟨k1, k2⟩, k3⟩ := k
    rcases List.mem_cons.1 h with e | h
    · cases e
      constructor
      · split at k1
        · rename_i oq hoq
          refine ⟨oq, by simpa using hoq, fun d hd => ?_⟩
          unfold dstApart at k1
          rw [hd] at k1
          simp only [Bool.not_eq_true'] at k1
          intro hm
          rw [hasN_iff.2 hm] at k1; cases k1
        · cases k1
      · intro ha
        rcases k2 with k2 | k2
        · rw [ha] at k2; cases k2
        · intro hm; rw [hasN_iff.2 hm] at k2; cases k2
    · exact pendOK_mem k3 h
theorem getD_set_false {L : Array Bool} {i x : Nat} (h : (L.setIfInBounds i true).getD x false = false) : L.getD x false = false := by
  cases hx : L.getD x false with
  | false => rfl
  | true => rw [getD_set_true hx] at h; cases h
theorem GP.put (hs : Region.noSelect ops = true) {pv : List PV} {L : Array Bool} {a : Act} {w : World} {i : Nat} {dst : Option Tmp} {u : Value} (g : GP P ops pv L a w)
    (hd : ∀ p ∈ pv, ∃ oq, ops[p.q]? = some oq ∧ ∀ d, dst = some d → d ∉ oq.looksAt ops) : GP P ops pv (L.setIfInBounds i true) (a.put dst u) w := by
  intro p hp hc
  obtain ⟨o, ho, hy⟩ := g p hp (fun x hx => getD_set_false (hc x hx))
  obtain ⟨oq, hoq, hd⟩ := hd p hp
  rw [ho] at hoq; cases hoq
  exact ⟨o, ho, (YieldsW.put (fun cs b => Region.noSelect_spec hs _ o cs b ho) hd).2 hy⟩
theorem GP.unput (hs : Region.noSelect ops = true) {pv : List PV} {L : Array Bool} {a : Act} {w : World} {i : Nat} {dst : Option Tmp} {u : Value} (g : GP P ops pv (L.setIfInBounds i true) (a.put dst u) w)
    (hd : ∀ p ∈ pv, (∃ oq, ops[p.q]? = some oq ∧ ∀ d, dst = some d → d ∉ oq.looksAt ops) ∧ i ∉ p.A) : GP P ops pv L a w := by
  intro p hp hc
  obtain ⟨⟨oq, hoq, hd⟩, hi⟩ := hd p hp
  obtain ⟨o, ho, hy⟩ := g p hp (fun x hx => by rw [getD_set_ne false (by rintro rfl; exact hi hx)]; exact hc x hx)
  rw [ho] at hoq; cases hoq
  exact ⟨oq, ho, (YieldsW.put (fun cs b => Region.noSelect_spec hs _ oq cs b ho) hd).1 hy⟩
theorem anyListed_false {L : Array Bool} : ∀ {A : List Nat}, (∀ x ∈ A, L.getD x false = false) → anyListed L A = false
  | [], _ => rfl
  | x :: A, h => by simp only [anyListed, h x (by simp), Bool.false_or]; exact anyListed_false fun y hy => h y (by simp [hy])
theorem recheck_ok {φ φ' : Phi} {F : AF} {H : AH} {L : Array Bool} {a : Act} {w : World} (hle : φ.le φ') (k : FR φ' F a) (r : Rel w0 φ' H w) : ∀ {pd : List (Nat × AV × List Nat)} {pv : List PV}, recheck P ops (evF F) H L pd = true → PR φ pd pv →
    (∀ p ∈ pv, ∃ o, ops[p.q]? = some o ∧ Region.wanted o (yielded ops a.tmps) = true) → GP P ops pv L a w
  | [], pv, _, h2, _ => by simp only [PR] at h2; subst h2; intro p hp; simp at hp
  | (q, b, A) :: pd, pv, h1, h2, h3 => by
    simp only [PR] at h2
    obtain ⟨v, l', rfl, hv, h2⟩ := h2
    simp only [recheck, Bool.and_eq_true, Bool.or_eq_true] at h1
    intro p hp hc
    rcases List.mem_cons.1 hp with rfl | hp
    · rcases h1.1 with h1 | h1
      · rw [anyListed_false hc] at h1; cases h1
      · split at h1
        · rename_i o ho
          split at h1
          · rename_i c hrd
            obtain ⟨u, hu1, hu2⟩ := readA_ok (P := P) k.ev hrd r
            have ho' : ops[q]? = some o := by simpa using ho
            obtain ⟨o2, ho2, hw⟩ := h3 _ (List.mem_cons_self ..)
            have he : o2 = o := by simp only [ho', Option.some.injEq] at ho2; exact ho2.symm
            rw [he] at hw
            refine ⟨o, ho', .inl ⟨hw, ?_⟩⟩
            rw [hu1, avEq_val hle h1 hv hu2]
          · cases h1
        · cases h1
    · exact recheck_ok hle k r h1.2 h2 (fun p hp => h3 p (by simp [hp])) p hp hc
def WantP (ops : Array Oper) (pv : List PV) (a : Act) : Prop := ∀ p ∈ pv, ∃ o, ops[p.q]? = some o ∧ Region.wanted o (yielded ops a.tmps) = true
theorem WantP.put {pv : List PV} {a : Act} {dst : Option Tmp} {u : Value} (h : WantP ops pv a) (hd : ∀ p ∈ pv, ∃ oq, ops[p.q]? = some oq ∧ ∀ d, dst = some d → d ∉ oq.looksAt ops) : WantP ops pv (a.put dst u) := by
  intro p hp
  obtain ⟨o, ho, hw⟩ := h p hp
  obtain ⟨oq, hoq, hd⟩ := hd p hp
  rw [ho] at hoq; cases hoq
  exact ⟨o, ho, by rw [wanted_put o a dst u hd]; exact hw⟩
theorem wpOp_of_wp {Q : Exit → Act → World → Prop} {i : Nat} {o : Oper} {a : Act} {w : World} {K : Act → World → Prop} (hi : ops[i]? = some o) (hw : Region.wanted o (yielded ops a.tmps) = true) (h : o.wp P a w K Q) : wpOp P ops Q i K a w := by
  unfold wpOp; simp only [hi, hw, if_true]; exact .inl h
theorem wpOp_of_not {Q : Exit → Act → World → Prop} {i : Nat} {o : Oper} {a : Act} {w : World} {K : Act → World → Prop} (hi : ops[i]? = some o) (hw : Region.wanted o (yielded ops a.tmps) = false) (h : K (a.put o.dst undef) w) : wpOp P ops Q i K a w := by
  unfold wpOp; simp only [hi, hw, Bool.false_eq_true, if_false]; exact h
theorem draw_ok (hcall : CallSound P w0 call) (hs : Region.noSelect ops = true) {φ0 : Phi} {H0 : AH} {F' : AF} {H' : AH} (n : Nat) :
    ∀ (pl : List (Nat × PK)) {spd : List (Nat × List Nat)} {L : Array Bool} {pd : List (Nat × AV × List Nat)} {pv : List PV} {F : AF} {H : AH} {a : Act} {w : World} {φ : Phi},
    planOK ops pl spd L = true → drawRun P call ops pl pd L F H = .ok (F', H') → φ0.le φ → Keep H0 H → Rel w0 φ H w → FR φ F a → PR φ pd pv → PS pd spd → WantP ops pv a → GP P ops pv L a w →
    wpAnyG P ops (fun e a w => e = .normal ∧ ∃ φ', φ0.le φ' ∧ Rel w0 φ' H' w ∧ Keep H0 H' ∧ FR φ' F' a) (GP P ops pv) (pl.length + n) L a w
  | [], spd, L, pd, pv, F, H, a, w, φ, h1, h2, hle, hk, r, k, _, _, _, _ => by
    simp only [drawRun, Rs.ok.injEq, Prod.mk.injEq] at h2
    obtain ⟨rfl, rfl⟩ := h2
    refine wpAnyG_done ?_ ⟨rfl, φ, hle, r, hk, k⟩ _
    simpa [planOK] using h1
  | (i, kd) :: pl, spd, L, pd, pv, F, H, a, w, φ, h1, h2, hle, hk, r, k, hpr, hps, hwp, hg => by
    have hlen : ((i, kd) :: pl).length + n = (pl.length + n) + 1 := by simp only [List.length_cons]; omega
    rw [hlen]
    unfold planOK at h1
    unfold drawRun at h2
    split at h1
    · cases h1
    · rename_i o ho
      have hoi : ops[i]? = some o := by simpa using ho
      have hsel := fun (j : Nat) (o : Oper) cs b hj => Region.noSelect_spec hs j o cs b hj
      simp only [ho] at h2
      have pend : ∀ {act : Bool}, pendOK ops o i act spd = true → ∀ p ∈ pv, (∃ oq, ops[p.q]? = some oq ∧ ∀ d, o.dst = some d → d ∉ oq.looksAt ops) ∧ (act = false → i ∉ p.A) := by
        intro act hp p hpv
        obtain ⟨b, hb⟩ := hpr.mem hpv
        exact pendOK_mem hp (hps _ hb)
      split at h2
      · cases h2
      ·
        rename_i hgd
        have hw := guardA_ok hgd k
        have freeCase : ∀ {F1 : AF}, F.put o.dst (.tup []) = some F1 → hasN (Region.ready .any ops L) i = true → Region.free .any ops L i = true → pendOK ops o i false spd = true →
            ∀ {spd' : List (Nat × List Nat)}, (∀ x ∈ spd, x ∈ spd') → planOK ops pl spd' (L.setIfInBounds i true) = true → drawRun P call ops pl pd (L.setIfInBounds i true) F1 H = .ok (F', H') →
            wpAnyG P ops (fun e a w => e = .normal ∧ ∃ φ', φ0.le φ' ∧ Rel w0 φ' H' w ∧ Keep H0 H' ∧ FR φ' F' a) (GP P ops pv) ((pl.length + n) + 1) L a w := by
          intro F1 hp c1 c2 c3 spd' hsub c4 h2
          have hq := pend c3
          have hd := fun p hp => (hq p hp).1
          exact wpAnyG_free (G := GP P ops pv) hoi hsel (fun c a w hc => by cases hc.1) (fun L a w g => GP.unput hs g (fun p hp => ⟨(hq p hp).1, (hq p hp).2 rfl⟩)) _ L a w (Region.free_spec hoi c2) (hasN_iff.1 c1) (.inr ⟨hw, rfl⟩) (hg.put hs hd)
            (draw_ok hcall hs n pl c4 h2 hle hk r (AF.put_ok hp undefVR k) hpr (fun p hp => hsub _ (hps p hp)) (hwp.put hd) (hg.put hs hd))
        cases kd with
        | free =>
          simp only [Bool.and_eq_true] at h1
          simp only at h2
          split at h2
          · rename_i F1 hp
            exact freeCase hp h1.1.1.1 h1.1.1.2 h1.1.2 (fun x hx => hx) h1.2 h2
          · cases h2
        | read E A =>
          simp only [Bool.and_eq_true] at h1
          simp only at h2
          split at h2
          · rename_i F1 hp
            exact freeCase hp h1.1.1.1.1.1.1.1.1 h1.1.1.1.1.1.1.1.2 h1.1.1.1.1.1.1.2 (fun x hx => List.mem_cons_of_mem _ hx) h1.2 h2
          · cases h2
        | act =>
          simp only [Bool.and_eq_true] at h1
          simp only at h2
          split at h2
          · rename_i F1 hp
            cases hrc : recheck P ops (evF F1) H (L.setIfInBounds i true) pd with
            | false => rw [hrc] at h2; cases h2
            | true =>
              rw [hrc, cond_true] at h2
              have hready : Region.ready .any ops L = [i] := by
                have := h1.1.1
                split at this
                · rename_i j hj; rw [hj, Nat.eq_of_beq_eq_true this]
                · cases this
              have hd := fun p hp => (pend h1.1.2 p hp).1
              have k1 := AF.put_ok hp undefVR k
              have hg1 := recheck_ok (Phi.le_refl φ) k1 r hrc hpr (hwp.put hd)
              exact wpAnyG_act hready (wpOp_of_not hoi hw ⟨hg1, draw_ok hcall hs n pl h1.2 h2 hle hk r k1 hpr hps (hwp.put hd) hg1⟩)
          · cases h2
      ·
        rename_i hgd
        have hw := guardA_ok hgd k
        cases kd with
        | free =>
          simp only [Bool.and_eq_true] at h1
          simp only at h2
          split at h2
          · rename_i b hb
            split at h2
            · rename_i F1 hp
              obtain ⟨v, hv1, hv2⟩ := pureA_ok k.ev hb
              have hq := pend h1.1.2
              have hd := fun p hp => (hq p hp).1
              exact wpAnyG_free (G := GP P ops pv) hoi hsel (fun c a w hc => by cases hc.1) (fun L a w g => GP.unput hs g (fun p hp => ⟨(hq p hp).1, (hq p hp).2 rfl⟩)) _ L a w (Region.free_spec hoi h1.1.1.2) (hasN_iff.1 h1.1.1.1) (.inl ⟨hw, hv1⟩) (hg.put hs hd)
                (draw_ok hcall hs n pl h1.2 h2 hle hk r (AF.put_ok hp hv2 k) hpr hps (hwp.put hd) (hg.put hs hd))
            · cases h2
          · cases h2
        | read E A =>
          simp only [Bool.and_eq_true, Bool.not_eq_true'] at h1
          simp only at h2
          obtain ⟨⟨⟨⟨⟨⟨⟨⟨c1, c2⟩, c3⟩, c4⟩, c5⟩, c6⟩, c7⟩, c8⟩, c9⟩ := h1
          split at h2
          · rename_i b hb
            split at h2
            · rename_i F1 hp
              obtain ⟨v, hv1, hv2⟩ := readA_ok (P := P) k.ev hb r
              have hq := pend c3
              have hd := fun p hp => (hq p hp).1
              have hself : ∀ d, o.dst = some d → d ∉ o.looksAt ops := by
                intro d hd hm
                unfold dstApart at c4
                rw [hd] at c4
                simp only [Bool.not_eq_true'] at c4
                rw [hasN_iff.2 hm] at c4; cases c4
              have hAE : ∀ x ∈ A, x ∈ E := by
                intro x hx
                have : ∀ (l : List Nat), within_ E l = true → ∀ x ∈ l, x ∈ E := by
                  intro l
                  induction l with
                  | nil => intro _ x hx; simp at hx
                  | cons y l ih =>
                    intro h x hx
                    simp only [within_, Bool.and_eq_true] at h
                    rcases List.mem_cons.1 hx with rfl | hx
                    · exact hasN_iff.1 h.1
                    · exact ih h.2 x hx
                exact this A c5 x hx
              have hiA : i ∉ A := by intro hm; rw [hasN_iff.2 hm] at c6; cases c6
              have hEc : ∀ x ∈ E, L.getD x false = false := by
                have : ∀ (l : List Nat), unlisted L l = true → ∀ x ∈ l, L.getD x false = false := by
                  intro l
                  induction l with
                  | nil => intro _ x hx; simp at hx
                  | cons y l ih =>
                    intro h x hx
                    simp only [unlisted, Bool.and_eq_true, Bool.not_eq_true'] at h
                    rcases List.mem_cons.1 hx with rfl | hx
                    · exact h.1
                    · exact ih h.2 x hx
                exact this E c7
              have hEj : ∀ x ∈ E, ∀ o, ops[x]? = some o → ∃ e ∈ o.after, Region.binds .any e = true ∧ (e.on = i ∨ e.on ∈ E) := by
                have : ∀ (l : List Nat), justified ops i E l = true → ∀ x ∈ l, ∀ o, ops[x]? = some o → ∃ e ∈ o.after, Region.binds .any e = true ∧ (e.on = i ∨ e.on ∈ E) := by
                  intro l
                  induction l with
                  | nil => intro _ x hx; simp at hx
                  | cons y l ih =>
                    intro h x hx o' ho'
                    simp only [justified, Bool.and_eq_true] at h
                    rcases List.mem_cons.1 hx with rfl | hx
                    · have ho2 : ops.toList[x]? = some o' := by simpa using ho'
                      rw [ho2] at h
                      have h1 := h.1
                      simp only [List.any_eq_true, Bool.and_eq_true, Bool.or_eq_true] at h1
                      obtain ⟨e, he, hb, hon⟩ := h1
                      refine ⟨e, by simpa using he, hb, ?_⟩
                      rcases hon with hon | hon
                      · exact .inl (Nat.eq_of_beq_eq_true hon)
                      · exact .inr (hasN_iff.1 hon)
                    · exact ih h.2 x hx o' ho'
                exact this E c8
              have hy : YieldsW P ops o v a w := .inl ⟨hw, hv1⟩
              have hg1 : GP P ops (⟨i, v, A⟩ :: pv) (L.setIfInBounds i true) (a.put o.dst v) w := by
                intro p hp hc
                rcases List.mem_cons.1 hp with rfl | hp
                · exact ⟨o, hoi, (YieldsW.put (fun cs b => hsel _ o cs b hoi) hself).2 hy⟩
                · exact (hg.put hs hd) p hp hc
              have hwp1 : WantP ops (⟨i, v, A⟩ :: pv) (a.put o.dst v) := by
                intro p hp
                rcases List.mem_cons.1 hp with rfl | hp
                · exact ⟨o, hoi, by rw [wanted_put o a o.dst v hself]; exact hw⟩
                · exact (hwp.put hd) p hp
              refine wpAnyG_read hoi hsel (fun c a w hc => by cases hc.1) hEj (G1 := GP P ops (⟨i, v, A⟩ :: pv)) (fun L a w g p hp hc => g p (List.mem_cons_of_mem _ hp) hc) ?_ _ L a w (Region.free_spec hoi c2) (hasN_iff.1 c1) hEc hy (hg.put hs hd)
                (draw_ok hcall hs n pl c9 h2 hle hk r (AF.put_ok hp hv2 k) (by simp only [PR]; exact ⟨v, pv, rfl, hv2, hpr⟩) ?_ hwp1 hg1)
              · intro L2 a2 w2 hcl g
                refine ⟨GP.unput hs (fun p hp hc => g p (List.mem_cons_of_mem _ hp) hc) (fun p hp => ⟨(hq p hp).1, (hq p hp).2 rfl⟩), ?_⟩
                obtain ⟨o2, ho2, hy2⟩ := g ⟨i, v, A⟩ (List.mem_cons_self ..) (fun x hx => by
                  rw [getD_set_ne false (by rintro rfl; exact hiA hx)]; exact hcl x (hAE x hx))
                simp only [hoi, Option.some.injEq] at ho2
                subst ho2
                exact (YieldsW.put (fun cs b => hsel _ o cs b hoi) hself).1 hy2
              · intro p hp
                rcases List.mem_cons.1 hp with rfl | hp
                · exact List.mem_cons_self ..
                · exact List.mem_cons_of_mem _ (hps p hp)
            · cases h2
          · cases h2
        | act =>
          simp only [Bool.and_eq_true] at h1
          simp only at h2
          have hready : Region.ready .any ops L = [i] := by
            have := h1.1.1
            split at this
            · rename_i j hj; rw [hj, Nat.eq_of_beq_eq_true this]
            · cases this
          have hd := fun p hp => (pend h1.1.2 p hp).1
          split at h2
          · rename_i b H1 hb
            split at h2
            · rename_i F1 hp
              cases hrc : recheck P ops (evF F1) H1 (L.setIfInBounds i true) pd with
              | false => rw [hrc] at h2; cases h2
              | true =>
                rw [hrc, cond_true] at h2
                refine wpAnyG_act hready (wpOp_of_wp hoi hw (opValX_ok hcall k.ev hb r ?_ ?_))
                · intro c φ1 v w1 hc hle1 hv hr hk1
                  cases hc
                  have k1 := AF.put_ok hp hv (k.mono hle1)
                  have hg1 := recheck_ok hle1 k1 hr hrc hpr (hwp.put hd)
                  exact ⟨hg1, draw_ok hcall hs n pl h1.2 h2 (Phi.le_trans hle hle1) (hk.trans hk1) hr k1 (hpr.mono hle1) hps (hwp.put hd) hg1⟩
                · intro c φ1 v w1 hc; cases hc
            · cases h2
          · cases h2
          · cases h2
theorem drawnBy_ok (hcall : CallSound P w0 call) (hm : P.follows .mixedOrders = true) {id : Nat} {F F' : AF} {H H' : AH} {x : AX} {φ : Phi} {a : Act} {w : World} {pl : List (Nat × PK)} (h : drawnBy P call ops pl F H = .ok (x, F', H')) (r : Rel w0 φ H w) (k : FR φ F a) :
    (Code.region id ops true).wp P (Post w0 φ H x F' H') a w := by
  unfold drawnBy at h
  cases hc : (planOK ops pl [] (Array.replicate ops.size false) && Region.noSelect ops && Nat.ble pl.length ops.size) with
  | false => simp only [hc, cond_false, reduceCtorEq] at h
  | true =>
    simp only [hc, cond_true] at h
    simp only [Bool.and_eq_true] at hc
    obtain ⟨⟨c1, c2⟩, c3⟩ := hc
    split at h
    · rename_i F1 H1 hd
      simp only [Rs.ok.injEq, Prod.mk.injEq] at h
      obtain ⟨rfl, rfl, rfl⟩ := h
      have hl := ble_of c3
      have k2 := draw_ok (P := P) (φ0 := φ) (H0 := H) (F' := F1) (H' := H1) (w := { w with drawn := w.drawn + 1 }) (a := a) hcall c2 (ops.size - pl.length) pl (pv := []) c1 hd (Phi.le_refl _) (Keep.refl _) (r.drew ⟨1, rfl⟩) k (by simp [PR]) (fun p hp => by simp at hp) (fun p hp => by simp at hp) (fun p hp => by simp at hp)
      rw [show pl.length + (ops.size - pl.length) = ops.size by omega] at k2
      refine wp_mono (wp_region_any hm (wpAnyG_any _ _ _ _ k2)) ?_
      rintro e a' w' ⟨rfl, φ', g1, g2, g3, g4⟩
      exact ⟨φ', g1, g2, g3, g4, rfl⟩
    · cases h
end
end Ev
end Go.Proofs.YtaegacblpbbndaaDoor
end
