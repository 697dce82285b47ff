/- The texts EvW of the proof, joined. Each says at its theorems what it proves. -/
import Derived.Test.YtaegacblpbbndaaDoorJ29
set_option linter.unusedSimpArgs false
set_option linter.unusedVariables false
section
namespace Go.Proofs.YtaegacblpbbndaaDoor
open Go Go.RowKit
set_option linter.unusedSimpArgs false
set_option linter.unusedVariables false
namespace Ev
abbrev CodeF := Nat → Code → RF
noncomputable def cfOf (f : CodeF) : Code → Cf := fun c F H => bif Nat.ble F.n 256 then (f F.n c F.tm F.df H).to F.n else .bad 97 0
noncomputable def fillR (l : List AV) : Nat → Fr → Fr := List.rec (fun _ t => t) (fun a _ ih i t => ih (Nat.succ i) ((setB i).run a t)) l
theorem fillR_eq : ∀ (l : List AV) (i : Nat) (t : Fr), fillR l i t = fillT i l t
  | [], _, _ => rfl
  | a :: l, i, t => by
    show fillR l (Nat.succ i) ((setB i).run a t) = _
    rw [setB_eq, fillR_eq l (Nat.succ i)]; rfl
noncomputable def resB (P : Program) (n : Nat) (l : List ResultVar) : Bx (Fr → AH → Option (List AV)) := List.rec ⟨fun _ _ => some []⟩ (fun r _ ih => ResultVar.rec
  (fun t => (fun b => ⟨fun T H => Option.rec none (fun a => Option.rec none (fun m => some (a :: m)) (ih.run T H)) (b.run T [])⟩) (evB n [] (.tmp t)))
  (fun t ty => (fun b => ⟨fun T H => Option.rec none (fun a => Option.rec none (fun m => some (a :: m)) (ih.run T H)) (b.run T [] H)⟩) (lodB P n [] ty (.tmp t))) r) l
theorem resB_ok {P : Program} {n : Nat} (hn : n ≤ 256) {T : Fr} {D : Df} {H : AH} : ∀ (l : List ResultVar) {m : List AV}, (resB P n l).run T H = some m → resList P ⟨T, n, D⟩ H l = some m
  | [], m, h => h
  | r :: l, m, h => by
    have key : ∀ (q : Option AV), (∀ a, q = some a → resOne P ⟨T, n, D⟩ H r = some a) → Option.rec (motive := fun _ => Option (List AV)) none (fun a => Option.rec (motive := fun _ => Option (List AV)) none (fun m => some (a :: m)) ((resB P n l).run T H)) q = some m → resList P ⟨T, n, D⟩ H (r :: l) = some m := by
      intro q hq hh
      cases q with
      | none => cases hh
      | some a =>
        cases hl : (resB P n l).run T H with
        | none => rw [hl] at hh; cases hh
        | some m' =>
          rw [hl] at hh
          cases hh
          unfold resList
          rw [hq a rfl, resB_ok hn l hl]
    cases r with
    | tmp t =>
      refine key ((evB n [] (.tmp t)).run T []) (fun a ha => ?_) h
      rw [evB_eq (Ag.nil hn T D)] at ha; exact ha
    | cell t ty =>
      refine key ((lodB P n [] ty (.tmp t)).run T [] H) (fun a ha => ?_) h
      have h2 := lodB_ok (Ag.nil hn T D) ha
      unfold rLoad at h2
      unfold resOne
      exact h2
noncomputable def outOf (o : Option (List AV)) : Option AV := Option.rec none (fun l => List.rec (some (.tup [])) (fun a l' _ => List.rec (some a) (fun _ _ _ => some (.tup l)) l') l) o
theorem outOf_eq (o : Option (List AV)) : outOf o = (match o with
  | some [a] => some a
  | some l => some (.tup l)
  | none => none) := by
  cases o with
  | none => rfl
  | some l =>
    cases l with
    | nil => rfl
    | cons a l => cases l <;> rfl
noncomputable def leaveT (P : Program) (fn : Func) (n : Nat) (res : Bx (Fr → AH → Option (List AV))) (call : CallF) (f : CodeF) (T : Fr) (D : Df) (H : AH) : Rs (CR × AH) :=
  List.rec (motive := fun _ => Rs (CR × AH)) (Option.rec (.bad 60 0) (fun b => .ok (.ret b, H)) (outOf (res.run T H))) (fun _ _ _ => leavesRun P call (cfOf f) fn ⟨T, n, D⟩ D .ret H) D
noncomputable def afterT (P : Program) (fn : Func) (n : Nat) (res : Bx (Fr → AH → Option (List AV))) (g : Nat) (call : CallF) (f : CodeF) (r : RX) : Rs (CR × AH) :=
  RX.rec (fun T D H => leaveT P fn n res call f T D H)
    (fun x T D H => AX.rec (.bad 70 g) (fun _ => .bad 70 g) (fun _ => .bad 70 g) (leaveT P fn n res call f T D H) (fun a => leavesRun P call (cfOf f) fn ⟨T, n, D⟩ D (.pan a) H) x)
    (fun c x => .bad c (x * 1000 + g)) r
noncomputable def callT (P : Program) (g : Nat) : Bx (CallF → CodeF → List AV → AH → Rs (CR × AH)) := match P.funcs[g]? with
  | some fn => (match fn.body with
    | some c => (fun res => ⟨fun call f args H => Bool.rec (motive := fun _ => Rs (CR × AH)) (.bad 71 g) (afterT P fn fn.ntmps res g call f (f fn.ntmps c (fillR args 0 Fr.nil) [] H)) (and (Nat.ble (lenN args) fn.ntmps) (Nat.ble fn.ntmps 256))⟩) (resB P fn.ntmps fn.results.toList)
    | none => ⟨fun _ _ _ _ => .bad 72 g⟩)
  | none => ⟨fun _ _ _ _ => .bad 73 g⟩
section
variable {P : Program} {call : CallF} {f : CodeF}
theorem leaveT_ok {fn : Func} {n : Nat} (hn : n ≤ 256) {T : Fr} {D : Df} {H : AH} {r} (h : leaveT P fn n (resB P n fn.results.toList) call f T D H = .ok r) : leavesRun P call (cfOf f) fn ⟨T, n, D⟩ D .ret H = .ok r := by
  cases D with
  | cons d D => exact h
  | nil =>
    have h' : Option.rec (motive := fun _ => Rs (CR × AH)) (.bad 60 0) (fun b => .ok (.ret b, H)) (outOf ((resB P n fn.results.toList).run T H)) = .ok r := h
    rw [outOf_eq] at h'
    unfold leavesRun
    cases hl : (resB P n fn.results.toList).run T H with
    | none => rw [hl] at h'; cases h'
    | some l =>
      rw [hl] at h'
      unfold resA
      rw [resB_ok hn (D := []) _ hl]
      cases l with
      | nil => exact h'
      | cons a l => cases l <;> exact h'
theorem callT_ok {g : Nat} {args : List AV} {H : AH} {r} (h : (callT P g).run call f args H = .ok r) : callRun P call (cfOf f) g args H = .ok r := by
  unfold callT at h
  unfold callRun
  split at h
  · rename_i fn hfn
    (try rw [hfn])
    split at h
    · rename_i c hc
      (try simp only [hc])
      have h' : Bool.rec (motive := fun _ => Rs (CR × AH)) (.bad 71 g) (afterT P fn fn.ntmps (resB P fn.ntmps fn.results.toList) g call f (f fn.ntmps c (fillR args 0 Fr.nil) [] H)) (and (Nat.ble (lenN args) fn.ntmps) (Nat.ble fn.ntmps 256)) = .ok r := h
      rw [lenN_eq, fillR_eq] at h'
      cases hb : (Nat.ble args.length fn.ntmps && Nat.ble fn.ntmps 256) with
      | false => rw [show and (Nat.ble args.length fn.ntmps) (Nat.ble fn.ntmps 256) = false from hb] at h'; cases h'
      | true =>
        rw [show and (Nat.ble args.length fn.ntmps) (Nat.ble fn.ntmps 256) = true from hb] at h'
        rw [cond_true]
        have hn : fn.ntmps ≤ 256 := by
          simp only [Bool.and_eq_true] at hb
          exact Nat.le_of_ble_eq_true hb.2
        have e : cfOf f c (frame0 args fn.ntmps) H = (f fn.ntmps c (fillT 0 args Fr.nil) [] H).to fn.ntmps := by
          have hle := Nat.ble_eq_true_of_le hn
          unfold cfOf
          show (bif Nat.ble fn.ntmps 256 then _ else _) = _
          rw [hle]; rfl
        rw [e]
        cases hx : f fn.ntmps c (fillT 0 args Fr.nil) [] H with
        | bad c y => rw [hx] at h'; cases h'
        | nor T D H1 =>
          rw [hx] at h'
          exact leaveT_ok hn h'
        | esc x T D H1 =>
          rw [hx] at h'
          cases x with
          | normal => cases h'
          | exit i => cases h'
          | goto l => cases h'
          | ret => exact leaveT_ok hn h'
          | panic a => exact h'
    · cases h
  · cases h
end
noncomputable def readerT (P : Program) (m : Nat) (n : Nat) : CodeF × CallF :=
  Nat.rec (⟨fun _ _ _ _ _ => .bad 80 0, fun _ _ _ => .bad 81 0⟩) (fun _ r => ⟨fun n c => (codeT P n m c).run r.2 (r.1 n), fun g => (callT P g).run r.2 r.1⟩) n
theorem cfOf_sound {P : Program} {w0 : Base} {f : CodeF} (hf : ∀ n, n ≤ 256 → ∀ c, SoundAt P w0 n (f n c) c) : CodeSound P w0 (cfOf f) := by
  intro c F H x F' H' φ a w h r k
  unfold cfOf at h
  cases hb : Nat.ble F.n 256 with
  | false => rw [hb] at h; cases h
  | true =>
    rw [hb] at h
    exact hf F.n (Nat.le_of_ble_eq_true hb) c _ _ _ _ _ _ _ _ _ h r k
theorem readerT_ok {P : Program} (hm : P.follows .mixedOrders = true) (m : Nat) : ∀ k (w0 : Base), (∀ n, n ≤ 256 → ∀ c, SoundAt P w0 n ((readerT P m k).1 n c) c) ∧ CallSound P w0 (readerT P m k).2
  | 0, w0 => ⟨(fun n hn c T D H x F' H' φ a w h => by cases h), (fun fz f args h r h' φ w vs k => by cases k)⟩
  | k + 1, w0 => ⟨fun n hn c => codeT_ok hn (readerT_ok hm m k w0).2 ((readerT_ok hm m k w0).1 n hn) hm m c, fun fz g args H rr H' φ w vs h r hv => callRun_ok (readerT_ok hm m k ⟨w0.w, fz⟩).2 (cfOf_sound (readerT_ok hm m k ⟨w0.w, fz⟩).1) g args H rr H' φ w vs (callT_ok h) r hv⟩
theorem closed_argsT {P : Program} (hm : P.follows .mixedOrders = true) {f m n : Nat} {args : List AV} {vs : List Value} (hv : VRl (fun _ => none) args vs) (h : isTrue ((readerT P m n).2 f args AH.empty) = true) (w : World) :
    Calls P f vs.toArray w (fun e w' => e = .returned (.bool true) ∧ Below w.heap.size w w') := by
  unfold isTrue at h
  split at h
  · rename_i H' hr
    refine ((readerT_ok hm m n ⟨w, []⟩).2 [] f args AH.empty _ H' _ w vs hr (Rel.empty w) hv).mono ?_
    rintro e w' ⟨φ', _, g2, _, ⟨a, v, ha, rfl, hv⟩ | ⟨a, v, ha, _⟩⟩
    · cases ha
      simp only [VR] at hv
      subst hv
      exact ⟨rfl, g2.below⟩
    · cases ha
  · cases h
end Ev
end Go.Proofs.YtaegacblpbbndaaDoor
end
