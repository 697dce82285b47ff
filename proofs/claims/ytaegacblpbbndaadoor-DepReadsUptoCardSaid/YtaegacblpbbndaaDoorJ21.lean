/- The texts EvQ of the proof, joined. Each says at its theorems what it proves. -/
import Derived.Test.YtaegacblpbbndaaDoorJ20
set_option linter.unusedSimpArgs false
set_option linter.unusedVariables false
section
namespace Go.Proofs.YtaegacblpbbndaaDoor
open Go Go.RowKit
set_option linter.unusedSimpArgs false
set_option linter.unusedVariables false
namespace Ev
structure ER where
  i : Nat
  o : Oper
  id : Option (Nat × Nat)
  ob : Obj
noncomputable def phiE (φ : Phi) : List ER → Phi
  | [] => φ
  | e :: E => match e.id with
    | some (b, x) => ext (phiE φ E) b (x, 0)
    | none => phiE φ E
def fzE : List ER → List (Nat × Obj)
  | [] => []
  | e :: E => match e.id with
    | some (_, x) => (x, e.ob) :: fzE E
    | none => fzE E
def IdsOK (E : List ER) : Prop := ∀ e ∈ E, ∀ e' ∈ E, ∀ b x x', e.id = some (b, x) → e'.id = some (b, x') → x = x'
theorem phiE_cases (φ : Phi) : ∀ (E : List ER) (b : Nat), IdsOK E → (∃ e ∈ E, ∃ x, e.id = some (b, x) ∧ phiE φ E b = some (x, 0)) ∨ ((∀ e ∈ E, ∀ x, e.id ≠ some (b, x)) ∧ phiE φ E b = φ b)
  | [], b, _ => .inr ⟨fun e he => (by cases he), rfl⟩
  | e :: E, b, h => by
    have h' : IdsOK E := fun e1 h1 e2 h2 => h e1 (List.mem_cons_of_mem _ h1) e2 (List.mem_cons_of_mem _ h2)
    unfold phiE
    cases he : e.id with
    | none =>
      simp only
      rcases phiE_cases φ E b h' with ⟨e1, h1, x, h2, h3⟩ | ⟨h1, h2⟩
      · exact .inl ⟨e1, List.mem_cons_of_mem _ h1, x, h2, h3⟩
      · refine .inr ⟨fun e1 h3 x h4 => ?_, h2⟩
        rcases List.mem_cons.1 h3 with rfl | h3
        · rw [he] at h4; cases h4
        · exact h1 e1 h3 x h4
    | some p =>
      obtain ⟨c, y⟩ := p
      simp only
      by_cases hb : b = c
      · subst hb
        exact .inl ⟨e, List.mem_cons_self .., y, he, ext_same _ _ _⟩
      · unfold ext
        rw [if_neg hb]
        rcases phiE_cases φ E b h' with ⟨e1, h1, x, h2, h3⟩ | ⟨h1, h2⟩
        · exact .inl ⟨e1, List.mem_cons_of_mem _ h1, x, h2, h3⟩
        · refine .inr ⟨fun e1 h3 x h4 => ?_, h2⟩
          rcases List.mem_cons.1 h3 with rfl | h3
          · rw [he] at h4; cases h4; exact hb rfl
          · exact h1 e1 h3 x h4
theorem phiE_at {φ : Phi} {E : List ER} (h : IdsOK E) {e : ER} (he : e ∈ E) {b x : Nat} (hb : e.id = some (b, x)) : phiE φ E b = some (x, 0) := by
  rcases phiE_cases φ E b h with ⟨e1, h1, y, h2, h3⟩ | ⟨h1, _⟩
  · rw [h3, h e1 h1 e he b y x h2 hb]
  · exact absurd hb (h1 e he x)
theorem phiE_le {φ φ' : Phi} {E E' : List ER} (h : IdsOK E) (h' : IdsOK E') (h1 : ∀ e ∈ E, ∀ b x, e.id = some (b, x) → phiE φ' E' b = some (x, 0)) (h2 : ∀ b y, φ b = some y → (∀ e ∈ E, ∀ x, e.id ≠ some (b, x)) → phiE φ' E' b = some y) : (phiE φ E).le (phiE φ' E') := by
  intro b y hy
  rcases phiE_cases φ E b h with ⟨e, he, x, hb, hx⟩ | ⟨hn, hx⟩
  · rw [hx] at hy; cases hy; exact h1 e he b x hb
  · rw [hx] at hy; exact h2 b y hy hn
theorem le_phiE {φ : Phi} {E : List ER} (h : IdsOK E) (hn : ∀ e ∈ E, ∀ b x, e.id = some (b, x) → φ b = none) : φ.le (phiE φ E) := by
  intro b y hy
  rcases phiE_cases φ E b h with ⟨e, he, x, hb, hx⟩ | ⟨_, hx⟩
  · rw [hn e he b x hb] at hy; cases hy
  · rw [hx]; exact hy
theorem mem_fzE {e : ER} {b x : Nat} : ∀ {E : List ER}, e ∈ E → e.id = some (b, x) → (x, e.ob) ∈ fzE E
  | [], h, _ => by cases h
  | e1 :: E, h, hid => by
    unfold fzE
    rcases List.mem_cons.1 h with rfl | h
    · rw [hid]; exact List.mem_cons_self ..
    · have := mem_fzE h hid
      split
      · exact List.mem_cons_of_mem _ this
      · exact this
theorem fzE_mem {p : Nat × Obj} : ∀ {E : List ER}, p ∈ fzE E → ∃ e ∈ E, ∃ b, e.id = some (b, p.1) ∧ p.2 = e.ob
  | [], h => by cases h
  | e :: E, h => by
    unfold fzE at h
    split at h
    · rename_i b x hid
      rcases List.mem_cons.1 h with rfl | h
      · exact ⟨e, List.mem_cons_self .., b, hid, rfl⟩
      · obtain ⟨e1, h1, h2⟩ := fzE_mem h; exact ⟨e1, List.mem_cons_of_mem _ h1, h2⟩
    · obtain ⟨e1, h1, h2⟩ := fzE_mem h; exact ⟨e1, List.mem_cons_of_mem _ h1, h2⟩
section
variable {W : World} {fz fz' : List (Nat × Obj)} {φ : Phi} {h : AH} {w : World}
theorem Rel.early (r : Rel ⟨W, fz⟩ φ h w) (ob : Obj) : Rel ⟨W, (w.heap.size, ob) :: fz⟩ φ h (w.alloc ob) := by
  have hsz : (w.alloc ob).heap.size = w.heap.size + 1 := by simp
  refine ⟨r.below.alloc r.below.size ob, r.dom, fun b x κ e => ?_, r.inj, fun b o e => ?_, fun p hp => ?_, fun b x κ e p hp => ?_⟩
  · have := r.ge _ _ _ e; exact ⟨this.1, by rw [hsz]; omega⟩
  · obtain ⟨hl, x, κ, ob', e1, e2, e3⟩ := r.obj _ _ e
    exact ⟨hl, x, κ, ob', e1, (heap_alloc_old w ob (r.ge _ _ _ e1).2).trans e2, e3⟩
  · rcases List.mem_cons.1 hp with rfl | hp
    · exact heap_alloc_new w ob
    · exact (heap_alloc_old w ob (fz_lt r hp)).trans (r.fro p hp)
  · rcases List.mem_cons.1 hp with rfl | hp
    · have := (r.ge _ _ _ e).2; show w.heap.size ≠ x; omega
    · exact r.gf _ _ _ e p hp
theorem Rel.thaw (r : Rel ⟨W, fz⟩ φ h w) (hs : ∀ p ∈ fz', p ∈ fz) : Rel ⟨W, fz'⟩ φ h w :=
  ⟨r.below, r.dom, r.ge, r.inj, r.obj, fun p hp => r.fro p (hs p hp), fun b x κ e p hp => r.gf b x κ e p (hs p hp)⟩
theorem Rel.take (r : Rel ⟨W, fz⟩ φ h w) (hs : ∀ p ∈ fz', p ∈ fz) (k : h.roomy = true) {o : AO} {ob : Obj} {x : Nat} (hx : W.heap.size ≤ x) (hfz : ∀ p ∈ fz', p.1 ≠ x) (hin : (x, ob) ∈ fz) (ho : objR φ 0 o ob) : Rel ⟨W, fz'⟩ (ext φ h.nx (x, 0)) (h.add o) w := by
  have hfree : ∀ b o κ', h.get b = some o → φ b ≠ some (x, κ') := fun b o κ' _ hb => r.gf _ _ _ hb _ hin rfl
  exact (r.thaw hs).adopt k hx hfz hfree ho rfl rfl rfl rfl (r.fro _ hin) (fun _ _ => rfl)
end
section
variable {P : Program} {call : Nat → List AV → AH → Rs (CR × AH)} {ops : Array Oper}
theorem apart_mk {x y : Oper} (h1 : ∀ d, x.dst = some d → d ∉ y.looksAt ops) (h2 : ∀ d, x.dst = some d → y.dst ≠ some d) (h3 : ∀ d, y.dst = some d → d ∉ x.looksAt ops) : x.apart ops y = true := by
  unfold Oper.apart
  cases hx : x.dst with
  | none =>
    cases hy : y.dst with
    | none => rfl
    | some e => have := h3 e hy; simp [this]
  | some d =>
    have hd := h1 d hx
    cases hy : y.dst with
    | none => simp [hd]
    | some e =>
      have := h3 e hy
      have hne : e ≠ d := by rintro rfl; exact h2 e hx hy
      simp [hd, this, hne]
theorem ord_pair : ∀ {pl : List Nat} {j k : Nat} {a b : Oper}, ordOK ops pl = true → j ∈ pl → k ∈ pl → j ≠ k → ops[j]? = some a → ops[k]? = some b → PairO ops j a b ∨ PairO ops k b a
  | [], _, _, _, _, _, h, _, _, _, _ => by cases h
  | i :: l, j, k, a, b, h, hj, hk, hne, ha, hb => by
    rcases List.mem_cons.1 hj with rfl | hj'
    · rcases List.mem_cons.1 hk with rfl | hk'
      · exact absurd rfl hne
      · obtain ⟨_, h2, _⟩ := ordOK_head ha h
        obtain ⟨b', hb', hp⟩ := h2 k hk'
        rw [hb] at hb'; cases hb'
        exact .inl hp
    · rcases List.mem_cons.1 hk with rfl | hk'
      · obtain ⟨_, h2, _⟩ := ordOK_head hb h
        obtain ⟨a', ha', hp⟩ := h2 j hj'
        rw [ha] at ha'; cases ha'
        exact .inr hp
      · have h3 : ordOK ops l = true := by simp only [ordOK, Bool.and_eq_true] at h; exact h.2
        exact ord_pair h3 hj' hk' hne ha hb
theorem ord_self : ∀ {pl : List Nat} {j : Nat} {a : Oper}, ordOK ops pl = true → j ∈ pl → ops[j]? = some a → ∀ d, a.dst = some d → d ∉ a.looksAt ops
  | [], _, _, _, h, _ => by cases h
  | i :: l, j, a, h, hj, ha => by
    rcases List.mem_cons.1 hj with rfl | hj'
    · exact (ordOK_head ha h).1
    · have h3 : ordOK ops l = true := by simp only [ordOK, Bool.and_eq_true] at h; exact h.2
      exact ord_self h3 hj' ha
theorem backO_at : ∀ {l : List Oper} {s x : Nat} {o : Oper}, backO ops s l = true → l[x]? = some o → ∀ e ∈ o.after, Region.binds .any e = true → e.on < s + x
  | [], _, _, _, _, h => by simp at h
  | a :: l, s, 0, o, h, ho => by
    simp at ho; subst ho
    simp only [backO, Bool.and_eq_true, List.all_eq_true, Array.mem_toList_iff, Bool.or_eq_true, Bool.not_eq_true'] at h
    intro e he hb
    rcases h.1 e he with h1 | h1
    · rw [hb] at h1; cases h1
    · exact Nat.le_of_ble_eq_true h1
  | a :: l, s, x + 1, o, h, ho => by
    simp only [List.getElem?_cons_succ] at ho
    simp only [backO, Bool.and_eq_true] at h
    intro e he hb
    have := backO_at h.2 ho e he hb
    omega
theorem back_at (h : backO ops 0 ops.toList = true) {x : Nat} {o : Oper} (ho : ops[x]? = some o) : ∀ e ∈ o.after, Region.binds .any e = true → e.on < x := by
  intro e he hb
  have := backO_at h (by simpa using ho) e he hb
  omega
theorem closeE_mem {i : Nat} : ∀ (f : Nat) (L : Array Bool) (x : Nat), (closeE P ops i f L).getD x false = true → L.getD x false = true ∨ (early P ops x = true ∧ x ≠ i)
  | 0, L, x, h => .inl h
  | f + 1, L, x, h => by
    unfold closeE at h
    split at h
    · exact .inl h
    · rename_i j l hl
      have hj : j ∈ (Region.ready .any ops L).filter (fun j => !Nat.beq j i && early P ops j) := by rw [hl]; exact List.mem_cons_self ..
      simp only [List.mem_filter, Bool.and_eq_true, Bool.not_eq_true'] at hj
      rcases closeE_mem f _ x h with h1 | h1
      · by_cases e : j = x
        · subst e; exact .inr ⟨hj.2.2, beqN hj.2.1⟩
        · rw [getD_set_ne false e] at h1; exact .inl h1
      · exact .inr h1
theorem closeE_le {i : Nat} : ∀ (f : Nat) (L : Array Bool) (x : Nat), L.getD x false = true → (closeE P ops i f L).getD x false = true
  | 0, L, x, h => h
  | f + 1, L, x, h => by
    unfold closeE
    split
    · exact h
    · exact closeE_le f _ x (getD_set_true h)
theorem closeE_size {i : Nat} : ∀ (f : Nat) (L : Array Bool), (closeE P ops i f L).size = L.size
  | 0, _ => rfl
  | f + 1, L => by
    unfold closeE
    split
    · rfl
    · rw [closeE_size f]; simp
theorem getD_lt {L : Array Bool} {x : Nat} (h : x < L.size) : L.getD x true = L.getD x false := by simp [h]
theorem getD_true_lt {L : Array Bool} {x : Nat} (h : L.getD x false = true) : x < L.size := by
  rcases Nat.lt_or_ge x L.size with h' | h'
  · exact h'
  · simp [Nat.not_lt.2 h'] at h
theorem closed_choice {Lp Lr : Array Bool} {i : Nat} (hb : backO ops 0 ops.toList = true) (hc : closedOK P ops Lp i = true) (hsz : Lp.size = ops.size) (hsr : Lr.size = ops.size) (hi : Lr.getD i false = false)
    (hle : ∀ x, Lr.getD x false = true → Lp.getD x false = true ∨ ∀ o, ops[x]? = some o → ∀ e ∈ o.after, Region.binds .any e = true → Lr.getD e.on false = true) (hpr : ∀ x, Lp.getD x false = true → Lr.getD x false = true) {j : Nat} (hj : j ∈ Region.ready .any ops Lr) :
    j = i ∨ early P ops j = true := by
  unfold closedOK at hc
  split at hc
  · rename_i i' hr
    obtain rfl := Nat.eq_of_beq_eq_true hc
    have key : ∀ x, Lr.getD x false = true → (closeE P ops i' ops.size Lp).getD x false = true := by
      intro x
      induction x using Nat.strongRecOn with
      | ind x ih =>
        intro hx
        rcases hle x hx with h1 | h1
        · exact closeE_le _ _ _ h1
        · have hlt : x < ops.size := by rw [← hsr]; exact getD_true_lt hx
          have ho : ops[x]? = some ops[x] := by simp [hlt]
          cases hcl : (closeE P ops i' ops.size Lp).getD x false with
          | true => rfl
          | false =>
            have hrd : x ∈ Region.ready .any ops (closeE P ops i' ops.size Lp) := by
              rw [mem_ready]
              refine ⟨by rw [getD_lt (by rw [closeE_size, hsz]; exact hlt)]; exact hcl, _, ho, fun e he hbd => ?_⟩
              exact ih e.on (back_at hb ho e he hbd) (h1 _ ho e he hbd)
            rw [hr] at hrd
            simp only [List.mem_singleton] at hrd
            rw [hrd, hi] at hx; cases hx
    obtain ⟨h0, o, ho, hall⟩ := mem_ready.1 hj
    have hlt : j < ops.size := (Array.getElem?_eq_some_iff.1 ho).1
    cases hcl : (closeE P ops i' ops.size Lp).getD j false with
    | true =>
      rcases closeE_mem _ _ _ hcl with h1 | h1
      · have := hpr j h1
        rw [getD_lt (by rw [hsr]; exact hlt)] at h0
        rw [h0] at this; cases this
      · exact .inr h1.1
    | false =>
      have hrd : j ∈ Region.ready .any ops (closeE P ops i' ops.size Lp) := by
        rw [mem_ready]
        exact ⟨by rw [getD_lt (by rw [closeE_size, hsz]; exact hlt)]; exact hcl, o, ho, fun e he hbd => key _ (hall e he hbd)⟩
      rw [hr] at hrd
      simp only [List.mem_singleton] at hrd
      exact .inl hrd
  · cases hc
theorem av_inj {k k' : NK} {b b' : Nat} (h : k.av b = k'.av b') : k = k' ∧ b = b' := by
  cases k <;> cases k' <;> simp only [NK.av, AV.ptr.injEq, AV.sl.injEq, AV.map.injEq, reduceCtorEq] at h
  · exact ⟨rfl, h.1⟩
  · obtain ⟨h1, _, h2, h3, _⟩ := h; subst h2; subst h3; exact ⟨rfl, h1⟩
  · exact ⟨rfl, h⟩
theorem run2_ids : ∀ {pl : List Nat} {pd : List (Nat × AV × List Nat)} {L : Array Bool} {F F' : AF} {H H' : AH}, drawRun2 P call ops pl pd L F H = .ok (F', H') → ordOK ops pl = true →
    ∀ j ∈ pl, ∀ j' ∈ pl, j ≠ j' → ∀ o o', ops[j]? = some o → ops[j']? = some o' → isNew o = true → kindOf P o ≠ 0 → isNew o' = true → kindOf P o' ≠ 0 → ∀ d d' k k' b b', o.dst = some d → o'.dst = some d' → F'.get d = NK.av k b → F'.get d' = NK.av k' b' → b ≠ b' := by
  have one : ∀ {i : Nat} {r : List Nat} {pd : List (Nat × AV × List Nat)} {L : Array Bool} {F F' : AF} {H H' : AH}, drawRun2 P call ops (i :: r) pd L F H = .ok (F', H') → ordOK ops (i :: r) = true →
      ∀ j' ∈ r, ∀ o o', ops[i]? = some o → ops[j']? = some o' → isNew o = true → kindOf P o ≠ 0 → isNew o' = true → kindOf P o' ≠ 0 → ∀ d d' k k' b b', o.dst = some d → o'.dst = some d' → F'.get d = NK.av k b → F'.get d' = NK.av k' b' → b < b' := by
    intro i r pd L F F' H H' h hord j' hj' o o' ho ho' hn hk hn' hk' d d' k k' b b' hd hd' hb hb'
    have hl1 := run2_local h hord i (List.mem_cons_self ..) o ho (by unfold earlyO; rw [hn, Bool.or_true])
    obtain ⟨o2, pd1, F1, H1, ho2, _, _, h1, _, hs⟩ := run2_inv h
    rw [ho] at ho2; cases ho2
    obtain ⟨q1, _, _, _, q5⟩ := run2_later h1
    obtain ⟨_, o3, o4⟩ := ordOK_head ho hord
    have hl2 := run2_local h1 o4 j' hj' o' ho' (by unfold earlyO; rw [hn', Bool.or_true])
    cases hs with
    | free a _ hk0 => exact absurd hk0 hk
    | read a _ _ _ _ hnew => rw [hnew] at hn; cases hn
    | act a _ _ _ hnew => rw [hnew] at hn; cases hn
    | new k1 ao d1 _ _ _ _ hd1 hput _ _ =>
      rw [hd] at hd1; cases hd1
      rw [hd] at hput
      obtain ⟨_, _, _, p4, _⟩ := AF.put_some hput
      have : F'.get d = F1.get d := q5 d fun kk hkk ok hok hdk => by
        obtain ⟨bb, hbb, hpr⟩ := o3 kk hkk
        rw [hbb] at hok; cases hok
        exact hpr.two d hd hdk
      rw [this, p4] at hb
      have hbH := (av_inj hb).2
      cases hl2 with
      | free a hk0 => exact absurd hk0 hk'
      | new k2 ao2 d2 b2 _ _ _ hd2 _ hv2 hb2 =>
        rw [hd'] at hd2; cases hd2
        rw [hv2] at hb'
        have := (av_inj hb').2
        have hnx : (H.add ao).nx = H.nx + 1 := rfl
        rw [hnx] at hb2
        omega
  intro pl
  induction pl with
  | nil => intro _ _ _ _ _ _ _ _ j hj; cases hj
  | cons i r ih =>
    intro pd L F F' H H' h hord j hj j' hj' hne o o' ho ho' hn hk hn' hk' d d' k k' b b' hd hd' hb hb'
    obtain ⟨o2, pd1, F1, H1, ho2, _, _, h1, _, hs⟩ := run2_inv h
    obtain ⟨_, _, o4⟩ := ordOK_head ho2 hord
    rcases List.mem_cons.1 hj with rfl | hj1
    · rcases List.mem_cons.1 hj' with rfl | hj1'
      · exact absurd rfl hne
      · exact Nat.ne_of_lt (one h hord j' hj1' o o' ho ho' hn hk hn' hk' d d' k k' b b' hd hd' hb hb')
    · rcases List.mem_cons.1 hj' with rfl | hj1'
      · exact Nat.ne_of_gt (one h hord j hj1 o' o ho' ho hn' hk' hn hk d' d k' k b' b hd' hd hb' hb)
      · exact ih h1 o4 j hj1 j' hj1' hne o o' ho ho' hn hk hn' hk' d d' k k' b b' hd hd' hb hb'
end
end Ev
end Go.Proofs.YtaegacblpbbndaaDoor
end
