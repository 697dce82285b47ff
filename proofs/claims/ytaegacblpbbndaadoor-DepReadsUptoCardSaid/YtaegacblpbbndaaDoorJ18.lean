/- The texts EvK of the proof, joined. Each says at its theorems what it proves. -/
import Derived.Test.YtaegacblpbbndaaDoorJ17
set_option linter.unusedSimpArgs false
set_option linter.unusedVariables false
section
namespace Go.Proofs.YtaegacblpbbndaaDoor
open Go Go.RowKit
set_option linter.unusedSimpArgs false
set_option linter.unusedVariables false
namespace Ev
noncomputable def bit (L i : Nat) : Bool := Nat.beq (Nat.mod (Nat.shiftRight L i) 2) 1
theorem bit_eq (L i : Nat) : bit L i = L.testBit i := by
  unfold bit
  rw [Nat.testBit_eq_decide_div_mod_eq]
  have h1 : Nat.shiftRight L i = L / 2 ^ i := Nat.shiftRight_eq_div_pow L i
  rw [h1]
  have h2 : Nat.mod (L / 2 ^ i) 2 = L / 2 ^ i % 2 := rfl
  rw [h2]
  rcases beq_cases (L / 2 ^ i % 2) 1 with ⟨q, h⟩ | ⟨q, h⟩
  · rw [q, h]; rfl
  · rw [q]; simp [h]
noncomputable def setBit (L i : Nat) : Nat := Nat.lor L (Nat.shiftLeft 1 i)
theorem bit_set (L i j : Nat) : bit (setBit L i) j = (bit L j || Nat.beq i j) := by
  rw [bit_eq, bit_eq]
  unfold setBit
  have h1 : Nat.lor L (Nat.shiftLeft 1 i) = L ||| (1 <<< i) := rfl
  rw [h1, Nat.testBit_or, Nat.testBit_shiftLeft]
  congr 1
  rcases beq_cases i j with ⟨q, h⟩ | ⟨q, h⟩
  · subst h; rw [q]; simp
  · rw [q]
    by_cases hle : i ≤ j
    · have h2 : j - i ≠ 0 := by omega
      have h3 : Nat.testBit 1 (j - i) = false := by
        cases ht : Nat.testBit 1 (j - i) with
        | false => rfl
        | true => exact absurd (Nat.testBit_one_eq_true_iff_self_eq_zero.1 ht) h2
      simp [hle, h3]
    · simp [hle]
theorem common {a b : Nat} (h : Nat.beq (Nat.land a b) 0 = false) : ∃ j, bit a j = true ∧ bit b j = true := by
  refine Classical.byContradiction fun hn => ?_
  have : Nat.land a b = 0 := by
    apply Nat.eq_of_testBit_eq
    intro j
    have h3 : (Nat.land a b).testBit j = (a.testBit j && b.testBit j) := Nat.testBit_and ..
    rw [h3, Nat.zero_testBit]
    cases ha : a.testBit j with
    | false => rfl
    | true =>
      cases hb : b.testBit j with
      | false => rfl
      | true => exact absurd ⟨j, by rw [bit_eq]; exact ha, by rw [bit_eq]; exact hb⟩ hn
  rw [this] at h; cases h
def BitsOf (n : Nat) (L : Nat) (A : Array Bool) : Prop := A.size = n ∧ ∀ i, A.getD i false = bit L i
theorem BitsOf.zero (n : Nat) : BitsOf n 0 (Array.replicate n false) := by
  refine ⟨by simp, fun i => ?_⟩
  have : bit 0 i = false := by rw [bit_eq]; simp
  rw [this]
  by_cases hi : i < n <;> simp [hi]
theorem BitsOf.set {n L : Nat} {A : Array Bool} (h : BitsOf n L A) {i : Nat} (hi : i < n) : BitsOf n (setBit L i) (A.setIfInBounds i true) := by
  refine ⟨by simp [h.1], fun j => ?_⟩
  rw [bit_set, ← h.2 j]
  rcases beq_cases i j with ⟨q, e⟩ | ⟨q, e⟩
  · subst e
    have hjA : i < A.size := by rw [h.1]; exact hi
    rw [q]; simp [hjA]
  · rw [q, getD_set_ne false e]; simp
theorem BitsOf.un {n L : Nat} {A : Array Bool} (h : BitsOf n L A) {i : Nat} (hi : i < n) (hb : bit L i = false) : A.getD i true = false := by
  have hA : i < A.size := by rw [h.1]; exact hi
  have := h.2 i
  simp [hA] at this ⊢
  rw [this]; exact hb
structure OI where
  kind : Nat
  after : List Nat
  mask : Nat
  dst : Option Nat
  looks : Nat
noncomputable def edgesOf (o : Oper) : List Nat := (o.after.toList.filter (fun e => Region.binds .any e)).map (·.on)
noncomputable def maskOf (l : List Nat) : Nat := List.rec 0 (fun i _ ih => setBit ih i) l
theorem bit_mask : ∀ (l : List Nat) (i : Nat), bit (maskOf l) i = hasN l i
  | [], i => by show bit 0 i = _; rw [bit_eq]; simp [hasN]
  | j :: l, i => by show bit (setBit (maskOf l) j) i = _; rw [bit_set, bit_mask l i, hasN, Bool.or_comm]
noncomputable def oiOf (P : Program) (ops : Array Oper) (o : Oper) : OI := ⟨kindOf P o, edgesOf o, maskOf (edgesOf o), o.dst, maskOf (o.looksAt ops)⟩
noncomputable def oisOf (P : Program) (ops : Array Oper) (l : List Oper) : List OI := List.rec [] (fun o _ ih => oiOf P ops o :: ih) l
theorem oisOf_get (P : Program) (ops : Array Oper) : ∀ (l : List Oper) (i : Nat), (oisOf P ops l)[i]? = (l[i]?).map (oiOf P ops)
  | [], i => by show ([] : List OI)[i]? = _; simp
  | o :: l, 0 => by show (oiOf P ops o :: oisOf P ops l)[0]? = _; simp
  | o :: l, i + 1 => by show (oiOf P ops o :: oisOf P ops l)[i + 1]? = _; simp only [List.getElem?_cons_succ]; exact oisOf_get P ops l i
noncomputable def nthQ (l : List OI) : Nat → Option OI := List.rec (fun _ => none) (fun a _ ih i => Nat.rec (some a) (fun i _ => ih i) i) l
theorem nthQ_eq : ∀ (l : List OI) (i : Nat), nthQ l i = l[i]?
  | [], i => by show none = _; simp
  | a :: l, 0 => by show some a = _; simp
  | a :: l, i + 1 => by show nthQ l i = _; simp only [List.getElem?_cons_succ]; exact nthQ_eq l i
noncomputable def dstOff (d : Option Nat) (looks : Nat) : Bool := Option.rec true (fun d => !bit looks d) d
noncomputable def dstNe (d e : Option Nat) : Bool := Option.rec true (fun d => Option.rec true (fun e => !Nat.beq d e) e) d
noncomputable def pairOK (i : Nat) (a b : OI) : Bool := bit b.mask i || (dstOff a.dst b.looks && dstNe a.dst b.dst && dstOff b.dst a.looks)
noncomputable def rowOK (i : Nat) (a : OI) (l : List OI) : Bool := List.rec true (fun b _ ih => pairOK i a b && ih) l
theorem rowOK_cons {i : Nat} {a b : OI} {l : List OI} : rowOK i a (b :: l) = (pairOK i a b && rowOK i a l) := rfl
noncomputable def pairsOK (l : List OI) : Nat → Bool := List.rec (fun _ => true) (fun a l ih i => rowOK i a l && ih (Nat.add i 1)) l
theorem pairsOK_cons {s : Nat} {a : OI} {l : List OI} : pairsOK (a :: l) s = (rowOK s a l && pairsOK l (s + 1)) := rfl
theorem rowOK_at {i : Nat} {a : OI} : ∀ {l : List OI} {k : Nat} {b : OI}, rowOK i a l = true → l[k]? = some b → pairOK i a b = true
  | [], _, _, _, h => by simp at h
  | c :: l, 0, b, h, e => by simp at e; subst e; simp only [rowOK_cons, Bool.and_eq_true] at h; exact h.1
  | c :: l, k + 1, b, h, e => by simp only [List.getElem?_cons_succ] at e; simp only [rowOK_cons, Bool.and_eq_true] at h; exact rowOK_at h.2 e
theorem pairsOK_at : ∀ {l : List OI} {s i j : Nat} {a b : OI}, pairsOK l s = true → i < j → l[i]? = some a → l[j]? = some b → pairOK (s + i) a b = true
  | [], _, _, _, _, _, _, _, h, _ => by simp at h
  | c :: l, s, 0, j + 1, a, b, h, _, ha, hb => by
    simp at ha; subst ha
    simp only [List.getElem?_cons_succ] at hb
    simp only [pairsOK_cons, Bool.and_eq_true] at h
    rw [Nat.add_zero]; exact rowOK_at h.1 hb
  | c :: l, s, i + 1, j + 1, a, b, h, hij, ha, hb => by
    simp only [List.getElem?_cons_succ] at ha hb
    simp only [pairsOK_cons, Bool.and_eq_true] at h
    have := pairsOK_at h.2 (by omega : i < j) ha hb
    rw [show s + (i + 1) = s + 1 + i by omega]; exact this
theorem edgesOf_mem {o : Oper} {j : Nat} : j ∈ edgesOf o ↔ ∃ e ∈ o.after, Region.binds .any e = true ∧ e.on = j := by
  unfold edgesOf
  simp only [List.mem_map, List.mem_filter, Array.mem_toList_iff]
  constructor
  · rintro ⟨e, ⟨h1, h2⟩, h3⟩; exact ⟨e, h1, h2, h3⟩
  · rintro ⟨e, h1, h2, h3⟩; exact ⟨e, ⟨h1, h2⟩, h3⟩
theorem dstOff_ok {d : Option Nat} {l : List Nat} (h : dstOff d (maskOf l) = true) : ∀ x, d = some x → x ∉ l := by
  intro x hx hm
  subst hx
  have h' : (!bit (maskOf l) x) = true := h
  rw [bit_mask, Bool.not_eq_true', ] at h'
  rw [hasN_iff.2 hm] at h'; cases h'
theorem apart_of {ops : Array Oper} {x y : Oper} (h1 : dstOff x.dst (maskOf (y.looksAt ops)) = true) (h2 : dstNe x.dst y.dst = true) (h3 : dstOff y.dst (maskOf (x.looksAt ops)) = true) : x.apart ops y = true := by
  unfold Oper.apart
  have e1 := dstOff_ok h1
  have e3 := dstOff_ok h3
  cases hx : x.dst with
  | none =>
    cases hy : y.dst with
    | none => rfl
    | some e => have := e3 e hy; simp [this]
  | some d =>
    have hd := e1 d hx
    cases hy : y.dst with
    | none => simp [hd]
    | some e =>
      have := e3 e hy
      rw [hx, hy] at h2
      have h2' : (!Nat.beq d e) = true := h2
      simp only [Bool.not_eq_true'] at h2'
      have hne : e ≠ d := by rintro rfl; rw [Nat.beq_refl] at h2'; cases h2'
      simp [hd, this, hne]
theorem apart_of' {ops : Array Oper} {x y : Oper} (h1 : dstOff x.dst (maskOf (y.looksAt ops)) = true) (h2 : dstNe x.dst y.dst = true) (h3 : dstOff y.dst (maskOf (x.looksAt ops)) = true) : y.apart ops x = true := by
  refine apart_of h3 ?_ h1
  revert h2
  cases x.dst with
  | none => cases y.dst <;> intro _ <;> rfl
  | some d =>
    cases y.dst with
    | none => intro _; rfl
    | some e =>
      intro h
      have h' : (!Nat.beq d e) = true := h
      show (!Nat.beq e d) = true
      simp only [Bool.not_eq_true'] at h' ⊢
      rcases beq_cases e d with ⟨q, r⟩ | ⟨q, r⟩
      · subst r; rw [Nat.beq_refl] at h'; cases h'
      · exact q
noncomputable def readyB (L i : Nat) (a : OI) : Bool := !bit L i && Nat.beq (Nat.land a.mask L) a.mask
noncomputable def readyAll (L : Nat) (l : List OI) : Nat → List Nat := List.rec (fun _ => []) (fun a _ ih i => bif readyB L i a then i :: ih (Nat.add i 1) else ih (Nat.add i 1)) l
theorem readyAll_cons {L i : Nat} {a : OI} {l : List OI} : readyAll L (a :: l) i = bif readyB L i a then i :: readyAll L l (i + 1) else readyAll L l (i + 1) := rfl
theorem readyAll_mem {L : Nat} : ∀ {l : List OI} {s x : Nat}, x ∈ readyAll L l s ↔ ∃ k a, x = s + k ∧ l[k]? = some a ∧ readyB L x a = true
  | [], s, x => by simp [show readyAll L [] s = [] from rfl]
  | a :: l, s, x => by
    have ih := readyAll_mem (L := L) (l := l) (s := s + 1) (x := x)
    have step : (∃ k b, x = s + k ∧ (a :: l)[k]? = some b ∧ readyB L x b = true) ↔ (x = s ∧ readyB L s a = true) ∨ ∃ k b, x = s + 1 + k ∧ l[k]? = some b ∧ readyB L x b = true := by
      constructor
      · rintro ⟨k, b, h1, h2, h3⟩
        cases k with
        | zero => simp at h2; subst h2; exact .inl ⟨by omega, by rw [show s = x by omega]; exact h3⟩
        | succ k => exact .inr ⟨k, b, by omega, by simpa using h2, h3⟩
      · rintro (⟨rfl, h⟩ | ⟨k, b, h1, h2, h3⟩)
        · exact ⟨0, a, by omega, by simp, h⟩
        · exact ⟨k + 1, b, by omega, by simpa using h2, h3⟩
    rw [readyAll_cons, step]
    cases hr : readyB L s a with
    | false => simp only [cond_false, Bool.false_eq_true, and_false, false_or]; exact ih
    | true => simp only [cond_true, List.mem_cons, and_true]; rw [ih]
theorem readyB_edges {L i : Nat} {a : OI} (hm : a.mask = maskOf a.after) (h : readyB L i a = true) : bit L i = false ∧ ∀ j ∈ a.after, bit L j = true := by
  unfold readyB at h
  simp only [Bool.and_eq_true, Bool.not_eq_true'] at h
  refine ⟨h.1, fun j hj => ?_⟩
  have h1 := Nat.eq_of_beq_eq_true h.2
  have h2 : bit a.mask j = true := by rw [hm, bit_mask]; exact hasN_iff.2 hj
  rw [← h1, bit_eq] at h2
  have h3 : (Nat.land a.mask L).testBit j = (a.mask.testBit j && L.testBit j) := Nat.testBit_and ..
  rw [h3, Bool.and_eq_true] at h2
  rw [bit_eq]; exact h2.2
theorem readyB_of {L i : Nat} {a : OI} (hm : a.mask = maskOf a.after) (h1 : bit L i = false) (h2 : ∀ j ∈ a.after, bit L j = true) : readyB L i a = true := by
  unfold readyB
  rw [h1]
  simp only [Bool.not_false, Bool.true_and]
  have : Nat.land a.mask L = a.mask := by
    apply Nat.eq_of_testBit_eq
    intro j
    have h3 : (Nat.land a.mask L).testBit j = (a.mask.testBit j && L.testBit j) := Nat.testBit_and ..
    rw [h3]
    cases hb : a.mask.testBit j with
    | false => rfl
    | true =>
      have : hasN a.after j = true := by rw [← bit_mask, ← hm, bit_eq]; exact hb
      rw [Bool.true_and, ← bit_eq]; exact h2 j (hasN_iff.1 this)
  rw [this]; exact Nat.beq_refl _
noncomputable def pendB (ops : List OI) (d : Option Nat) (i : Nat) (act : Bool) : List (Nat × List Nat) → Bool
  | [] => true
  | (q, A) :: l => (match nthQ ops q with
    | some oq => dstOff d oq.looks
    | none => false) && (act || !hasN A i) && pendB ops d i act l
noncomputable def unlB (L : Nat) : List Nat → Bool
  | [] => true
  | x :: l => !bit L x && unlB L l
noncomputable def justB (ops : List OI) (M : Nat) : List Nat → Bool
  | [] => true
  | x :: l => (match nthQ ops x with
    | some o => !Nat.beq (Nat.land o.mask M) 0
    | none => true) && justB ops M l
noncomputable def planB (ops : List OI) : List (Nat × PK) → List (Nat × List Nat) → Nat → Bool
  | [], _, L => match readyAll L ops 0 with
    | [] => true
    | _ => false
  | (i, k) :: r, pd, L => match nthQ ops i with
    | none => false
    | some o => match k with
      | .free => readyB L i o && pendB ops o.dst i false pd && planB ops r pd (setBit L i)
      | .read E A => readyB L i o && pendB ops o.dst i false pd && dstOff o.dst o.looks && within_ E A && !hasN A i && unlB L E && justB ops (setBit (maskOf E) i) E && planB ops r ((i, A) :: pd) (setBit L i)
      | .act => (match readyAll L ops 0 with | [j] => Nat.beq j i | _ => false) && pendB ops o.dst i true pd && planB ops r pd (setBit L i)
noncomputable def firstQ (ops : List OI) (k : Nat) : List Nat → Option Nat
  | [] => none
  | i :: l => match nthQ ops i with
    | some o => bif Nat.beq o.kind k then some i else firstQ ops k l
    | none => firstQ ops k l
noncomputable def depQ (L : Nat) (l : List OI) : Nat → Nat → List Nat := List.rec (fun _ _ => []) (fun o _ ih j M => bif bit L j || Nat.beq (Nat.land o.mask M) 0 then ih (Nat.add j 1) M else j :: ih (Nat.add j 1) (setBit M j)) l
noncomputable def actsQ (ops : List OI) : List Nat → List Nat
  | [] => []
  | j :: l => match nthQ ops j with
    | some o => bif Nat.beq o.kind 2 then j :: actsQ ops l else actsQ ops l
    | none => actsQ ops l
noncomputable def mkPlanQ (ops : List OI) : Nat → Nat → List (Nat × PK)
  | 0, _ => []
  | f + 1, L => match readyAll L ops 0 with
    | [] => []
    | i :: r => match firstQ ops 0 (i :: r) with
      | some j => (j, .free) :: mkPlanQ ops f (setBit L j)
      | none => match firstQ ops 1 (i :: r) with
        | some j => (fun E => (j, .read E (actsQ ops E)) :: mkPlanQ ops f (setBit L j)) (depQ L ops 0 (setBit 0 j))
        | none => (i, .act) :: mkPlanQ ops f (setBit L i)
section
variable {P : Program} {ops : Array Oper}
noncomputable def OIs (P : Program) (ops : Array Oper) : List OI := oisOf P ops ops.toList
theorem OIs_get (i : Nat) : (OIs P ops)[i]? = (ops[i]?).map (oiOf P ops) := by
  unfold OIs; rw [oisOf_get]; simp
theorem OIs_nth (i : Nat) : nthQ (OIs P ops) i = (ops[i]?).map (oiOf P ops) := by rw [nthQ_eq, OIs_get]
theorem ready_iff {L : Nat} {A : Array Bool} (hL : BitsOf ops.size L A) (i : Nat) : i ∈ Region.ready .any ops A ↔ ∃ o, ops[i]? = some o ∧ readyB L i (oiOf P ops o) = true := by
  rw [mem_ready]
  constructor
  · rintro ⟨h0, o, ho, hall⟩
    have hi : i < ops.size := (Array.getElem?_eq_some_iff.1 ho).1
    refine ⟨o, ho, readyB_of rfl ?_ ?_⟩
    · rw [← hL.2 i]
      have hA : i < A.size := by rw [hL.1]; exact hi
      simp [hA] at h0 ⊢
      exact h0
    · intro j hj
      obtain ⟨e, he, hb, rfl⟩ := edgesOf_mem.1 hj
      rw [← hL.2]; exact hall e he hb
  · rintro ⟨o, ho, hr⟩
    have hi : i < ops.size := (Array.getElem?_eq_some_iff.1 ho).1
    obtain ⟨h1, h2⟩ := readyB_edges (a := oiOf P ops o) rfl hr
    exact ⟨hL.un hi h1, o, ho, fun e he hb => by rw [hL.2]; exact h2 e.on (edgesOf_mem.2 ⟨e, he, hb, rfl⟩)⟩
theorem ready_all {L : Nat} {A : Array Bool} (hL : BitsOf ops.size L A) (x : Nat) : x ∈ Region.ready .any ops A ↔ x ∈ readyAll L (OIs P ops) 0 := by
  rw [ready_iff (P := P) hL, readyAll_mem]
  constructor
  · rintro ⟨o, ho, hr⟩; exact ⟨x, _, by omega, by rw [OIs_get, ho]; rfl, hr⟩
  · rintro ⟨k, a, hk, ha, hr⟩
    obtain rfl : x = k := by omega
    rw [OIs_get] at ha
    cases ho : ops[x]? with
    | none => rw [ho] at ha; cases ha
    | some o => rw [ho] at ha; cases ha; exact ⟨o, rfl, hr⟩
theorem ready_nodup (A : Array Bool) : (Region.ready .any ops A).Nodup := by
  unfold Region.ready
  exact (List.nodup_range).filter _
theorem eq_single {l : List Nat} {i : Nat} (hn : l.Nodup) (h : ∀ x, x ∈ l ↔ x = i) : l = [i] := by
  match l, hn, h with
  | [], _, h => exact absurd ((h i).2 rfl) (by simp)
  | [a], _, h => have := (h a).1 (by simp); rw [this]
  | a :: b :: l, hn, h =>
    have h1 := (h a).1 (by simp)
    have h2 := (h b).1 (by simp)
    rw [h1, h2] at hn
    simp at hn
theorem free_of {L : Nat} {A : Array Bool} (hL : BitsOf ops.size L A) (hp : pairsOK (OIs P ops) 0 = true) {i : Nat} {o : Oper} (ho : ops[i]? = some o) (hr : readyB L i (oiOf P ops o) = true) : Region.free .any ops A i = true := by
  unfold Region.free
  simp only [ho, List.all_eq_true, List.mem_range, Bool.or_eq_true, beq_iff_eq]
  intro j hj
  by_cases hji : j = i
  · exact .inl (.inl hji)
  cases hA : A.getD j true with
  | true => exact .inl (.inr rfl)
  | false =>
    right
    have hoj : ops[j]? = some ops[j] := by simp [hj]
    rw [hoj]
    simp only [Bool.or_eq_true]
    have hbj : bit L j = false := by
      rw [← hL.2 j]
      have hA' : j < A.size := by rw [hL.1]; exact hj
      simp [hA'] at hA ⊢; exact hA
    by_cases hlt : i < j
    · have h1 := pairsOK_at hp hlt (by rw [OIs_get, ho]; rfl) (by rw [OIs_get, hoj]; rfl)
      rw [Nat.zero_add] at h1
      unfold pairOK at h1
      simp only [Bool.or_eq_true, Bool.and_eq_true] at h1
      rcases h1 with h1 | h1
      · left
        have h2 : hasN (edgesOf ops[j]) i = true := by rw [← bit_mask]; exact h1
        obtain ⟨e, he, hb, h3⟩ := edgesOf_mem.1 (hasN_iff.1 h2)
        rw [Array.any_eq_true']
        exact ⟨e, he, by simp [hb, h3]⟩
      · right
        exact apart_of h1.1.1 h1.1.2 h1.2
    · have hlt' : j < i := by omega
      have h1 := pairsOK_at hp hlt' (by rw [OIs_get, hoj]; rfl) (by rw [OIs_get, ho]; rfl)
      rw [Nat.zero_add] at h1
      unfold pairOK at h1
      simp only [Bool.or_eq_true, Bool.and_eq_true] at h1
      rcases h1 with h1 | h1
      · exfalso
        have h2 : hasN (edgesOf o) j = true := by rw [← bit_mask]; exact h1
        have h3 := (readyB_edges (a := oiOf P ops o) rfl hr).2 j (hasN_iff.1 h2)
        rw [hbj] at h3; cases h3
      · right
        exact apart_of' h1.1.1 h1.1.2 h1.2
theorem pendB_ok {o : Oper} {i : Nat} {act : Bool} : ∀ {l : List (Nat × List Nat)}, pendB (OIs P ops) o.dst i act l = true → pendOK ops o i act l = true
  | [], _ => rfl
  | (q, A) :: l, h => by
    simp only [pendB, Bool.and_eq_true, OIs_nth] at h
    simp only [pendOK, Bool.and_eq_true]
    refine ⟨⟨?_, h.1.2⟩, pendB_ok h.2⟩
    have h1 := h.1.1
    cases hq : ops[q]? with
    | none => rw [hq] at h1; cases h1
    | some oq =>
      rw [hq] at h1
      have : ops.toList[q]? = some oq := by simpa using hq
      rw [this]
      have h2 := dstOff_ok (l := oq.looksAt ops) h1
      unfold dstApart
      cases hd : o.dst with
      | none => rfl
      | some d =>
        have := h2 d hd
        simp only [Bool.not_eq_true']
        cases hh : hasN (oq.looksAt ops) d with
        | false => rfl
        | true => exact absurd (hasN_iff.1 hh) this
theorem unlB_ok {L : Nat} {A : Array Bool} (hL : BitsOf ops.size L A) : ∀ {l : List Nat}, unlB L l = true → unlisted A l = true
  | [], _ => rfl
  | x :: l, h => by
    simp only [unlB, Bool.and_eq_true] at h
    simp only [unlisted, Bool.and_eq_true]
    exact ⟨by rw [hL.2]; exact h.1, unlB_ok hL h.2⟩
theorem justB_ok {i : Nat} {E : List Nat} : ∀ {l : List Nat}, justB (OIs P ops) (setBit (maskOf E) i) l = true → justified ops i E l = true
  | [], _ => rfl
  | x :: l, h => by
    simp only [justB, Bool.and_eq_true, OIs_nth] at h
    simp only [justified, Bool.and_eq_true]
    refine ⟨?_, justB_ok h.2⟩
    have h1 := h.1
    cases hx : ops[x]? with
    | none => have : ops.toList[x]? = none := by simpa using hx
              rw [this]
    | some o =>
      have : ops.toList[x]? = some o := by simpa using hx
      rw [this]
      rw [hx] at h1
      simp only [Option.map_some, Bool.not_eq_true'] at h1
      obtain ⟨j, h2, h3⟩ := common h1
      have h2' : hasN (edgesOf o) j = true := by rw [← bit_mask]; exact h2
      obtain ⟨e, he, hb, rfl⟩ := edgesOf_mem.1 (hasN_iff.1 h2')
      rw [bit_set, bit_mask] at h3
      simp only [List.any_eq_true, Array.mem_toList_iff]
      refine ⟨e, he, ?_⟩
      rw [hb, Bool.true_and]
      simp only [Bool.or_eq_true] at h3 ⊢
      rcases h3 with h3 | h3
      · exact .inr h3
      · left; rw [Nat.eq_of_beq_eq_true h3]; exact Nat.beq_refl _
theorem planB_ok (hp : pairsOK (OIs P ops) 0 = true) : ∀ {pl : List (Nat × PK)} {pd : List (Nat × List Nat)} {L : Nat} {A : Array Bool}, planB (OIs P ops) pl pd L = true → BitsOf ops.size L A → planOK ops pl pd A = true
  | [], pd, L, A, h, hL => by
    unfold planOK
    unfold planB at h
    rw [List.isEmpty_iff, List.eq_nil_iff_forall_not_mem]
    intro x hx
    have := (ready_all (P := P) hL x).1 hx
    split at h
    · rename_i he; rw [he] at this; simp at this
    · cases h
  | (i, k) :: pl, pd, L, A, h, hL => by
    unfold planOK
    unfold planB at h
    rw [OIs_nth] at h
    cases ho : ops[i]? with
    | none => rw [ho] at h; cases h
    | some o =>
      have hi : i < ops.size := (Array.getElem?_eq_some_iff.1 ho).1
      have ho' : ops.toList[i]? = some o := by simpa using ho
      rw [ho] at h
      rw [ho']
      simp only [Option.map_some] at h
      have hr1 : readyB L i (oiOf P ops o) = true → hasN (Region.ready .any ops A) i = true := fun hr => hasN_iff.2 ((ready_iff (P := P) hL i).2 ⟨o, ho, hr⟩)
      cases k with
      | free =>
        simp only [Bool.and_eq_true] at h ⊢
        exact ⟨⟨⟨hr1 h.1.1, free_of hL hp ho h.1.1⟩, pendB_ok h.1.2⟩, planB_ok hp h.2 (hL.set hi)⟩
      | read E B =>
        simp only [Bool.and_eq_true] at h ⊢
        obtain ⟨⟨⟨⟨⟨⟨⟨a1, a2⟩, a3⟩, a4⟩, a5⟩, a6⟩, a7⟩, a8⟩ := h
        refine ⟨⟨⟨⟨⟨⟨⟨⟨hr1 a1, free_of hL hp ho a1⟩, pendB_ok a2⟩, ?_⟩, a4⟩, a5⟩, unlB_ok hL a6⟩, justB_ok a7⟩, planB_ok hp a8 (hL.set hi)⟩
        have h2 := dstOff_ok (l := o.looksAt ops) a3
        unfold dstApart
        cases hd : o.dst with
        | none => rfl
        | some d =>
          have := h2 d hd
          simp only [Bool.not_eq_true']
          cases hh : hasN (o.looksAt ops) d with
          | false => rfl
          | true => exact absurd (hasN_iff.1 hh) this
      | act =>
        simp only [Bool.and_eq_true] at h ⊢
        refine ⟨⟨?_, pendB_ok h.1.2⟩, planB_ok hp h.2 (hL.set hi)⟩
        have h1 := h.1.1
        split at h1
        · rename_i j hj
          have hji := Nat.eq_of_beq_eq_true h1
          subst hji
          rw [eq_single (ready_nodup A) (i := j) (fun x => by rw [ready_all (P := P) hL x, hj]; simp)]
          exact h1
        · cases h1
end
noncomputable def planned (P : Program) (ops : Array Oper) (pl : List (Nat × PK)) (O : List OI) : Bool := planB O pl [] 0 && pairsOK O 0 && Region.noSelect ops && Nat.ble pl.length ops.size
noncomputable def runBy (P : Program) (call : Nat → List AV → AH → Rs (CR × AH)) (ops : Array Oper) (pl : List (Nat × PK)) (F : AF) (H : AH) : Rs (AX × AF × AH) :=
  match drawRun P call ops pl [] (Array.replicate ops.size false) F H with
  | .ok (F', H') => .ok (.normal, F', H')
  | .bad c x => .bad c x
noncomputable def drawnQ (P : Program) (call : Nat → List AV → AH → Rs (CR × AH)) (ops : Array Oper) (F : AF) (H : AH) : Rs (AX × AF × AH) :=
  bif planned P ops (mkPlanQ (OIs P ops) ops.size 0) (OIs P ops) then runBy P call ops (mkPlanQ (OIs P ops) ops.size 0) F H else .bad 18 0
theorem drawnQ_ok {P : Program} {w0 : Base} {call : Nat → List AV → AH → Rs (CR × AH)} {ops : Array Oper} (hcall : CallSound P w0 call) (hm : P.follows .mixedOrders = true) {id : Nat} {F F' : AF} {H H' : AH} {x : AX} {φ : Phi} {a : Act} {w : World} (h : drawnQ P call ops F H = .ok (x, F', H')) (r : Rel w0 φ H w) (k : FR φ F a) :
    (Code.region id ops true).wp P (Post w0 φ H x F' H') a w := by
  unfold drawnQ at h
  cases hc : planned P ops (mkPlanQ (OIs P ops) ops.size 0) (OIs P ops) with
  | false => simp only [hc, cond_false, reduceCtorEq] at h
  | true =>
    simp only [hc, cond_true] at h
    generalize mkPlanQ (OIs P ops) ops.size 0 = pl at h hc
    unfold planned at hc
    simp only [Bool.and_eq_true] at hc
    refine drawnBy_ok (pl := pl) hcall hm ?_ r k
    unfold drawnBy
    rw [planB_ok hc.1.1.2 hc.1.1.1 (BitsOf.zero _), hc.1.2, hc.2]
    simp only [Bool.and_true, cond_true]
    exact h
end Ev
end Go.Proofs.YtaegacblpbbndaaDoor
end
