/- The texts EvH of the proof, joined. Each says at its theorems what it proves. -/
import Derived.Test.YtaegacblpbbndaaDoorJ24
set_option linter.unusedSimpArgs false
set_option linter.unusedVariables false
section
namespace Go.Proofs.YtaegacblpbbndaaDoor
open Go Go.RowKit
set_option linter.unusedSimpArgs false
set_option linter.unusedVariables false
namespace Ev
noncomputable def fillT : Nat → List AV → Fr → Fr
  | _, [], t => t
  | i, a :: l, t => fillT (i + 1) l (Fr.set a t i)
theorem fillT_get : ∀ (l : List AV) (i : Nat) (t : Fr) (j : Nat), i + l.length ≤ 256 → j < 256 → Fr.get (fillT i l t) j = if i ≤ j ∧ j < i + l.length then (l[j - i]?).getD (.tup []) else Fr.get t j
  | [], i, t, j, _, _ => by simp only [fillT, List.length_nil, Nat.add_zero]; rw [if_neg (by omega)]
  | a :: l, i, t, j, h, hj => by
    simp only [List.length_cons] at h ⊢
    simp only [fillT]
    rw [fillT_get l (i + 1) _ j (by omega) hj]
    by_cases h1 : j = i
    · subst h1
      rw [if_neg (by omega), if_pos (by omega), Fr.get_set_same a t j hj]
      simp
    · rw [Fr.get_set_other a t i j (by omega) hj h1]
      by_cases h2 : i + 1 ≤ j ∧ j < i + 1 + l.length
      · rw [if_pos h2, if_pos (by omega), show j - i = (j - (i + 1)) + 1 by omega, List.getElem?_cons_succ]
      · rw [if_neg h2, if_neg (by omega)]
noncomputable def frame0 (args : List AV) (n : Nat) : AF := { tm := fillT 0 args Fr.nil, n := n, df := [] }
theorem frame0_ok {φ : Phi} {args : List AV} {vs : List Value} {n : Nat} (h : VRl φ args vs) (h1 : args.length ≤ n) (h2 : n ≤ 256) : FR φ (frame0 args n) { tmps := vs.toArray ++ Array.replicate (n - vs.toArray.size) undef, defers := [] } := by
  have hl := h.length
  refine ⟨by simp [frame0]; omega, fun t ht => ?_, rfl⟩
  have ht' : t < n := ht
  rw [AF.get_lt (by omega)]
  unfold frame0
  simp only
  rw [fillT_get args 0 Fr.nil t (by omega) (by omega)]
  simp only [Nat.zero_le, true_and, Nat.zero_add, Nat.sub_zero]
  by_cases hlt : t < args.length
  · rw [if_pos hlt, List.getElem?_eq_getElem hlt, Option.getD_some]
    obtain ⟨v, hv, hr⟩ := h.get (i := t) (List.getElem?_eq_getElem hlt)
    have hlt' : t < vs.length := by omega
    have e : (vs.toArray ++ Array.replicate (n - vs.toArray.size) undef).getD t undef = v := by
      rw [List.getElem?_eq_getElem hlt'] at hv
      simp only [Option.some.injEq] at hv
      simp [Array.getElem?_append, hlt', hv]
    rw [e]; exact hr
  · rw [if_neg hlt]
    have e : (vs.toArray ++ Array.replicate (n - vs.toArray.size) undef).getD t undef = undef := by
      have : ¬ t < vs.length := by omega
      simp only [Array.getD_eq_getD_getElem?, Array.getElem?_append, List.size_toArray, if_neg this]
      rw [Array.getElem?_replicate]
      split <;> rfl
    rw [e, Fr.get_nil]; exact undefVR
noncomputable def resOne (P : Program) (F : AF) (H : AH) : ResultVar → Option AV
  | .tmp t => evF F (.tmp t)
  | .cell t ty => match evF F (.tmp t) with
    | some a => loadA P ty a H
    | none => none
noncomputable def resList (P : Program) (F : AF) (H : AH) : List ResultVar → Option (List AV)
  | [] => some []
  | r :: l => match resOne P F H r with
    | some a => match resList P F H l with
      | some m => some (a :: m)
      | none => none
    | none => none
noncomputable def resA (P : Program) (fn : Func) (F : AF) (H : AH) : Option AV := match resList P F H fn.results.toList with
  | some [a] => some a
  | some l => some (.tup l)
  | none => none
noncomputable def resSem (a : Act) : ResultVar → Sem Value
  | .tmp t => pure (a.tmps.getD t undef)
  | .cell x t => do loadVar t (← asAddr (a.tmps.getD x undef))
section
variable {P : Program} {w0 : Base} {w : World} {φ : Phi}
theorem resList_ok {F : AF} {H : AH} {a : Act} (k : FR φ F a) (r : Rel w0 φ H w) : ∀ {l : List ResultVar} {m : List AV}, resList P F H l = some m → ∃ vs, VRl φ m vs ∧
    (l.mapM (m := Sem) (resSem a)).run P w = .ok vs w
  | [], _, h => by cases h; exact ⟨[], .nil, by simp [go_sem]⟩
  | x :: l, _, h => by
    unfold resList at h
    split at h
    · rename_i b hb
      split at h
      · rename_i m hm
        cases h
        obtain ⟨vs, h1, h2⟩ := resList_ok k r hm
        cases x with
        | tmp t =>
          have hv := k.ev _ _ (show evF F (.tmp t) = some b from hb)
          refine ⟨a.tmps.getD t undef :: vs, .cons hv h1, ?_⟩
          have hA : (resSem a (.tmp t)).run P w = .ok (a.tmps.getD t undef) w := rfl
          rw [List.mapM_cons, Sem.run_bind, hA, Result.andThen_ok, Sem.run_bind, h2]; rfl
        | cell t ty =>
          unfold resOne at hb
          simp only at hb
          split at hb
          · rename_i c hc
            have hv := k.ev _ _ hc
            obtain ⟨v, g1, g2⟩ := loadA_ok (P := P) hb hv r
            refine ⟨v :: vs, .cons g2 h1, ?_⟩
            have hp : ∃ ad, a.tmps.getD t undef = .pointer (some ad) := by
              unfold loadA at hb
              split at hb
              · simp only [VR] at hv
                obtain ⟨y, κ, _, hv⟩ := hv
                exact ⟨_, hv⟩
              · cases hb
            obtain ⟨ad, hp⟩ := hp
            have hl : (loadVar ty ad).run P w = .ok v w := by
              have e : a.eval (.tmp t) = .pointer (some ad) := hp
              rw [e] at g1
              simpa only [Instr.loadAt, Instr.sureAddr, Sem.run_bind, Sem.run_pure, Result.andThen_ok] using g1
            have hA : (resSem a (.cell t ty)).run P w = .ok v w := by simp only [resSem, hp, asAddr, Sem.run_bind, Sem.run_pure, Result.andThen_ok, hl]
            rw [List.mapM_cons, Sem.run_bind, hA, Result.andThen_ok, Sem.run_bind, h2]; rfl
          · cases hb
      · cases h
    · cases h
theorem resA_ok {fn : Func} {F : AF} {H : AH} {a : Act} {b : AV} (h : resA P fn F H = some b) (k : FR φ F a) (r : Rel w0 φ H w) : ∃ v, (results fn a.tmps).run P w = .ok v w ∧ VR φ b v := by
  unfold resA at h
  have key : ∀ m, resList P F H fn.results.toList = some m → ∃ vs, VRl φ m vs ∧ (results fn a.tmps).run P w = .ok (if h : vs.toArray.size = 1 then vs.toArray[0] else .tuple vs.toArray) w := by
    intro m hm
    obtain ⟨vs, h1, h2⟩ := resList_ok (P := P) k r hm
    refine ⟨vs, h1, ?_⟩
    unfold results
    rw [Array.mapM_eq_mapM_toList]
    simp only [Sem.run_bind, Sem.run_map]
    have h3 : ∀ g : ResultVar → Sem Value, (∀ x, g x = resSem a x) → (fn.results.toList.mapM (m := Sem) g).run P w = .ok vs w := by
      intro g hg
      rw [funext hg]; exact h2
    rw [h3 _ (fun x => by cases x <;> rfl)]
    rfl
  split at h
  · rename_i c hc
    cases h
    obtain ⟨vs, h1, h2⟩ := key _ hc
    obtain ⟨v, vs', rfl, h3, h4⟩ := h1.cons_inv
    rw [h4.nil_inv] at h2
    exact ⟨v, by simpa using h2, h3⟩
  · rename_i l hne hl
    cases h
    obtain ⟨vs, h1, h2⟩ := key _ hl
    refine ⟨.tuple vs.toArray, ?_, by simp only [VR]; exact ⟨vs, h1, rfl⟩⟩
    rw [h2, dif_neg]
    intro hs
    have hlen := h1.length
    simp only [List.size_toArray] at hs
    rw [hs] at hlen
    obtain ⟨c, rfl⟩ := List.length_eq_one_iff.1 hlen.symm
    exact hne c rfl
  · cases h
end
inductive U where
  | ret
  | pan (a : AV)
  | done
def UR (φ : Phi) : U → FrameMode → Prop
  | .ret, u => u = .returning
  | .pan a, u => ∃ v, u = .panicking [{ v, recovered := false }] ∧ VR φ a v
  | .done, u => ∃ v, u = .panicking [{ v, recovered := true }]
theorem UR.mono {φ φ' : Phi} (h : φ.le φ') {u : U} {m : FrameMode} (k : UR φ u m) : UR φ' u m := by
  cases u with
  | pan a => obtain ⟨v, e, k⟩ := k; exact ⟨v, e, k.mono h⟩
  | _ => exact k
noncomputable def isRecover (o : Oper) : Bool := match o.op with
  | .call c => match c.callee with
    | .builtin .recover => true
    | _ => false
  | _ => false
noncomputable def opsD (P : Program) (call : Nat → List AV → AH → Rs (CR × AH)) (ops : Array Oper) : List Nat → AF → AH → U → Rs (AX × AF × AH × U)
  | [], F, H, u => .ok (.normal, F, H, u)
  | i :: rest, F, H, u => match ops.toList[i]? with
    | none => .bad 40 i
    | some o => match guardA ops F o.guard with
      | none => .bad 41 i
      | some false => match F.put o.dst (.tup []) with
        | some F' => opsD P call ops rest F' H u
        | none => .bad 42 i
      | some true => bif isRecover o then (match u with
          | .pan a => match F.put o.dst a with
            | some F' => opsD P call ops rest F' H .done
            | none => .bad 42 i
          | u => match F.put o.dst .nili with
            | some F' => opsD P call ops rest F' H u
            | none => .bad 42 i)
        else (match opValX P call (evF F) o H with
          | .ok (.ret a, H') => match F.put o.dst a with
            | some F' => opsD P call ops rest F' H' u
            | none => .bad 42 i
          | .ok (.pan _, _) => .bad 43 i
          | .bad c x => .bad c x)
noncomputable def liftU (r : Rs (AX × AF × AH)) (u : U) : Rs (AX × AF × AH × U) := match r with
  | .ok (x, F, H) => .ok (x, F, H, u)
  | .bad c y => .bad c y
noncomputable def exD (P : Program) (call : Nat → List AV → AH → Rs (CR × AH)) (f : Code → Cf) : Code → AF → AH → U → Rs (AX × AF × AH × U)
  | .seq a b, F, H, u => match exD P call f a F H u with
    | .ok (.normal, F', H', u') => exD P call f b F' H' u'
    | r => r
  | .cond c x y, F, H, u => match evF F c with
    | some (.bool true) => exD P call f x F H u
    | some (.bool false) => exD P call f y F H u
    | _ => .bad 44 0
  | .region id ops draw, F, H, u => bif draw then liftU (f (.region id ops draw) F H) u else opsD P call ops (List.range ops.size) F H u
  | c, F, H, u => liftU (f c F H) u
def PostS (w0 : Base) (φ : Phi) (H : AH) (x : AX) (F' : AF) (H' : AH) (u' : U) (c0 : Frame) (cs : List Frame) : Exit → Act → List Frame → World → Prop := fun e a cs' w =>
  ∃ φ' m', φ.le φ' ∧ Rel w0 φ' H' w ∧ Keep H H' ∧ FR φ' F' a ∧ XR φ' x e ∧ UR φ' u' m' ∧ cs' = { c0 with mode := m' } :: cs
theorem PostS.step {w0 : Base} {φ φ1 : Phi} {H H1 : AH} {x : AX} {F' : AF} {H' : AH} {u : U} {c0 : Frame} {cs cs' : List Frame} {e : Exit} {a : Act} {w : World} (h1 : φ.le φ1) (h2 : Keep H H1) (k : PostS w0 φ1 H1 x F' H' u c0 cs e a cs' w) : PostS w0 φ H x F' H' u c0 cs e a cs' w := by
  obtain ⟨φ', m', a1, a2, a3, a4, a5, a6, a7⟩ := k
  exact ⟨φ', m', Phi.le_trans h1 a1, a2, h2.trans a3, a4, a5, a6, a7⟩
section
variable {P : Program} {w0 : Base} {call : Nat → List AV → AH → Rs (CR × AH)} {f : Code → Cf}
theorem wpOpsS_imp {ops : Array Oper} {Q Q' : Exit → Act → List Frame → World → Prop} (hq : ∀ e a cs w, Q e a cs w → Q' e a cs w) : ∀ (l : List Nat) (a : Act) (cs : List Frame) (w : World), wpOpsS P ops Q l a cs w → wpOpsS P ops Q' l a cs w
  | [], a, cs, w, h => hq _ _ _ _ h
  | i :: rest, a, cs, w, h => by
    unfold wpOpsS at h ⊢
    split
    · rename_i ho
      simp only [ho] at h
      exact wpOpsS_imp hq rest _ _ _ h
    · rename_i o ho
      simp only [ho] at h
      split
      · rename_i hw
        rw [if_pos hw] at h
        generalize (execOp a.eval o).run P w = r at *
        cases r with
        | ok n w' =>
          cases n <;> simp only [Oper.upon] at h ⊢
          case recover =>
            split <;> rename_i hrc
            · rw [hrc] at h; exact wpOpsS_imp hq rest _ _ _ h
            · rw [hrc] at h; exact wpOpsS_imp hq rest _ _ _ h
          all_goals first
            | exact wpOpsS_imp hq rest _ _ _ h
            | exact Calls.mono h (fun e w'' he => by cases e <;> first | exact wpOpsS_imp hq rest _ _ _ he | exact hq _ _ _ _ he | (obtain ⟨a0, w1, he⟩ := he; exact ⟨a0, w1, hq _ _ _ _ he⟩))
            | exact Rows.mono h (fun _ _ he => wpOpsS_imp hq rest _ _ _ he)
            | exact h
        | halt x w' => cases x <;> simp only [Oper.upon] at h ⊢ <;> first | exact hq _ _ _ _ h | exact h
      · rename_i hw
        rw [if_neg hw] at h
        exact wpOpsS_imp hq rest _ _ _ h
theorem opsD_ok (hcall : CallSound P w0 call) {ops : Array Oper} {c0 : Frame} {cs : List Frame} : ∀ (l : List Nat) {F F' : AF} {H H' : AH} {x : AX} {u u' : U} {φ : Phi} {a : Act} {w : World} {m : FrameMode}, opsD P call ops l F H u = .ok (x, F', H', u') → Rel w0 φ H w → FR φ F a → UR φ u m →
    wpOpsS P ops (PostS w0 φ H x F' H' u' c0 cs) l a ({ c0 with mode := m } :: cs) w
  | [], F, F', H, H', x, u, u', φ, a, w, m, h, r, k, hu => by
    simp only [opsD, Rs.ok.injEq, Prod.mk.injEq] at h
    obtain ⟨rfl, rfl, rfl, rfl⟩ := h
    exact ⟨φ, m, Phi.le_refl _, r, Keep.refl _, k, rfl, hu, rfl⟩
  | i :: rest, F, F', H, H', x, u, u', φ, a, w, m, h, r, k, hu => by
    unfold opsD at h
    unfold wpOpsS
    split at h
    · cases h
    · rename_i o ho
      have hoi : ops[i]? = some o := by simpa using ho
      simp only [hoi]
      split at h
      · cases h
      · rename_i hg
        rw [guardA_ok hg k, if_neg (by simp)]
        split at h
        · rename_i F1 hp
          exact opsD_ok hcall rest h r (AF.put_ok hp undefVR k) hu
        · cases h
      · rename_i hg
        rw [guardA_ok hg k, if_pos rfl]
        cases hrec : isRecover o with
        | true =>
          rw [hrec, cond_true] at h
          have hrun : (execOp a.eval o).run P w = .ok .recover w := by
            obtain ⟨dst, op, type, pos, after, guard⟩ := o
            unfold isRecover at hrec
            cases op <;> simp only [Bool.false_eq_true] at hrec
            rename_i c
            obtain ⟨callee, args, ats⟩ := c
            simp only at hrec
            split at hrec
            · simp [execOp, resolve, invoke, builtin, go_sem]
            · cases hrec
          rw [hrun]
          simp only
          split at h
          · rename_i b
            simp only [UR] at hu
            obtain ⟨v, rfl, hv⟩ := hu
            split at h
            · rename_i F1 hp
              simp only [recoverD]
              exact opsD_ok hcall rest h r (AF.put_ok hp hv k) (by simp only [UR]; exact ⟨v, rfl⟩)
            · cases h
          · rename_i hne
            have hnone : recoverD ({ c0 with mode := m } :: cs) = none := by
              cases u with
              | ret => simp only [UR] at hu; subst hu; rfl
              | pan b => exact absurd rfl (hne b)
              | done => simp only [UR] at hu; obtain ⟨v, rfl⟩ := hu; rfl
            simp only [hnone]
            split at h
            · rename_i F1 hp
              exact opsD_ok hcall rest h r (AF.put_ok hp (by simp [VR]) k) hu
            · cases h
        | false =>
          rw [hrec, cond_false] at h
          split at h
          · rename_i b H1 hb
            split at h
            · rename_i F1 hp
              have hw := opValX_ok (K := fun a' w' => wpOpsS P ops (PostS w0 φ H x F' H' u' c0 cs) rest a' ({ c0 with mode := m } :: cs) w') (Q := fun e a' w' => PostS w0 φ H x F' H' u' c0 cs e a' ({ c0 with mode := m } :: cs) w') hcall k.ev hb r
                (by
                  intro c φ1 v w1 hc hle hv hr hk
                  cases hc
                  exact wpOpsS_imp (fun e a cs w q => PostS.step hle hk q) rest _ _ _ (opsD_ok hcall rest h hr (AF.put_ok hp hv (k.mono hle)) (hu.mono hle)))
                (by intro c φ1 v w1 hc; cases hc)
              unfold Oper.wp at hw
              generalize (execOp a.eval o).run P w = rr at *
              cases rr with
              | ok n w' => cases n <;> first | exact hw | exact hw.elim
              | halt y w' => exact hw
            · cases h
          · cases h
          · cases h
theorem liftU_ok {r : Rs (AX × AF × AH)} {u u' : U} {x : AX} {F : AF} {H : AH} (h : liftU r u = .ok (x, F, H, u')) : r = .ok (x, F, H) ∧ u' = u := by
  unfold liftU at h
  split at h
  · simp only [Rs.ok.injEq, Prod.mk.injEq] at h
    obtain ⟨rfl, rfl, rfl, rfl⟩ := h
    exact ⟨rfl, rfl⟩
  · cases h
theorem lift_ok (hf : CodeSound P w0 f) {c : Code} {c0 : Frame} {cs : List Frame} {F F' : AF} {H H' : AH} {x : AX} {u u' : U} {φ : Phi} {a : Act} {w : World} {m : FrameMode} (h : liftU (f c F H) u = .ok (x, F', H', u')) (r : Rel w0 φ H w) (k : FR φ F a) (hu : UR φ u m) :
    c.wpS P (PostS w0 φ H x F' H' u' c0 cs) a ({ c0 with mode := m } :: cs) w := by
  obtain ⟨h1, rfl⟩ := liftU_ok h
  refine wpS_of_wp (wp_mono (hf _ _ _ _ _ _ _ _ _ h1 r k) ?_)
  rintro e a w ⟨φ1, g1, g2, g3, g4, g5⟩
  exact ⟨φ1, m, g1, g2, g3, g4, g5, hu.mono g1, rfl⟩
theorem wpS_mono {c : Code} {Q Q' : Exit → Act → List Frame → World → Prop} {a : Act} {cs : List Frame} {w : World} (h : c.wpS P Q a cs w) (hq : ∀ e a cs w, Q e a cs w → Q' e a cs w) : c.wpS P Q' a cs w :=
  fun b k hb hr => let ⟨e, a', cs', w', q, r⟩ := h b k hb hr; ⟨e, a', cs', w', hq _ _ _ _ q, r⟩
theorem exD_ok (hcall : CallSound P w0 call) (hf : CodeSound P w0 f) {c0 : Frame} {cs : List Frame} : ∀ (c : Code) {F F' : AF} {H H' : AH} {x : AX} {u u' : U} {φ : Phi} {a : Act} {w : World} {m : FrameMode}, exD P call f c F H u = .ok (x, F', H', u') → Rel w0 φ H w → FR φ F a → UR φ u m →
    c.wpS P (PostS w0 φ H x F' H' u' c0 cs) a ({ c0 with mode := m } :: cs) w
  | .seq y z, F, F', H, H', x, u, u', φ, a, w, m, h, r, k, hu => by
    unfold exD at h
    refine wpS_seq ?_
    split at h
    · rename_i F1 H1 u1 h1
      refine wpS_mono (exD_ok hcall hf y h1 r k hu) ?_
      rintro e a cs' w ⟨φ1, m1, g1, g2, g3, g4, g5, g6, rfl⟩
      simp only [XR] at g5; subst g5
      exact wpS_mono (exD_ok hcall hf z h g2 g4 g6) fun e a cs w q => PostS.step g1 g3 q
    · rename_i hne
      refine wpS_mono (exD_ok hcall hf y h r k hu) ?_
      intro e a cs' w q
      have hx : x ≠ .normal := by rintro rfl; exact hne _ _ _ h
      have he : e ≠ .normal := by
        obtain ⟨φ1, m1, g1, g2, g3, g4, g5, _⟩ := q
        exact fun q => hx ((XR.not g5).1 q)
      cases e <;> first | exact absurd rfl he | exact q
  | .cond c y z, F, F', H, H', x, u, u', φ, a, w, m, h, r, k, hu => by
    unfold exD at h
    split at h
    · rename_i hc
      have hv := k.ev _ _ hc
      simp only [VR] at hv
      exact wpS_cond hv (exD_ok hcall hf y h r k hu)
    · rename_i hc
      have hv := k.ev _ _ hc
      simp only [VR] at hv
      exact wpS_cond hv (exD_ok hcall hf z h r k hu)
    · cases h
  | .region id ops draw, F, F', H, H', x, u, u', φ, a, w, m, h, r, k, hu => by
    unfold exD at h
    cases draw with
    | true => exact lift_ok hf h r k hu
    | false => exact wpS_region (opsD_ok hcall _ h r k hu)
  | .skip, F, F', H, H', x, u, u', φ, a, w, m, h, r, k, hu => lift_ok hf (by simpa only [exD] using h) r k hu
  | .block i y, F, F', H, H', x, u, u', φ, a, w, m, h, r, k, hu => lift_ok hf (by simpa only [exD] using h) r k hu
  | .loop y, F, F', H, H', x, u, u', φ, a, w, m, h, r, k, hu => lift_ok hf (by simpa only [exD] using h) r k hu
  | .rangeFunc _ _ _ _, F, F', H, H', x, u, u', φ, a, w, m, h, r, k, hu => lift_ok hf (by simpa only [exD] using h) r k hu
  | .exit _, F, F', H, H', x, u, u', φ, a, w, m, h, r, k, hu => lift_ok hf (by simpa only [exD] using h) r k hu
  | .scope _, F, F', H, H', x, u, u', φ, a, w, m, h, r, k, hu => lift_ok hf (by simpa only [exD] using h) r k hu
  | .label _, F, F', H, H', x, u, u', φ, a, w, m, h, r, k, hu => lift_ok hf (by simpa only [exD] using h) r k hu
  | .goto _, F, F', H, H', x, u, u', φ, a, w, m, h, r, k, hu => lift_ok hf (by simpa only [exD] using h) r k hu
  | .ret, F, F', H, H', x, u, u', φ, a, w, m, h, r, k, hu => lift_ok hf (by simpa only [exD] using h) r k hu
  | .refuse _, F, F', H, H', x, u, u', φ, a, w, m, h, r, k, hu => lift_ok hf (by simpa only [exD] using h) r k hu
end
end Ev
end Go.Proofs.YtaegacblpbbndaaDoor
end
