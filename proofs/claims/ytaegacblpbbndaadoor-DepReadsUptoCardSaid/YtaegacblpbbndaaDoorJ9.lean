/- The texts EvA of the proof, joined. Each says at its theorems what it proves. -/
import Derived.Test.YtaegacblpbbndaaDoorJ8
import Derived.Deep.AppendSrc
set_option linter.unusedSimpArgs false
set_option linter.unusedVariables false
section
namespace Go.Proofs.YtaegacblpbbndaaDoor
open Go Go.RowKit
set_option linter.unusedSimpArgs false
set_option linter.unusedVariables false
namespace Ev
noncomputable def srcA (size : Nat) (x : AV) (h : AH) : Option (Nat × List AV) := match x with
  | .nils => some (0, [])
  | .sle => some (0, [])
  | .sl b off len _ _ => match h.get b with
    | some (.row c _ _ _) => bif Nat.ble (off + len * size) c.length then some (len, (c.drop off).take (len * size)) else none
    | _ => none
  | .str l => bif Nat.beq size 1 then some (l.length, l.map fun u => .int .u8 (.ofNat u.toNat)) else none
  | _ => none
section
variable {P : Program} {φ : Phi} {w0 : Base} {w : World} {h : AH}
theorem VRl.bytes : ∀ (l : List UInt8), VRl φ (l.map fun u => AV.int .u8 (.ofNat u.toNat)) (l.map fun u => Value.int .u8 u.toNat)
  | [] => .nil
  | u :: l => .cons (by simp [VR]) (VRl.bytes l)
noncomputable def isSl (P : Program) (t : Nat) : Bool := match P.underlying t with
  | some (.slice _) => true
  | _ => false
noncomputable def isStr (P : Program) (t : Nat) : Bool := match P.underlying t with
  | some .string => true
  | _ => false
theorem isSl_u {t : Nat} (h : isSl P t = true) : ∃ e, P.underlying t = some (.slice e) := by
  unfold isSl at h
  split at h
  · rename_i e he; exact ⟨e, he⟩
  · cases h
theorem isStr_u {t : Nat} (h : isStr P t = true) : P.underlying t = some .string := by
  unfold isStr at h
  split at h
  · assumption
  · cases h
noncomputable def srcKind (P : Program) (t : Nat) (x : AV) : Bool := match x with
  | .nils => isSl P t
  | .sle => isSl P t
  | .sl _ _ _ _ _ => isSl P t
  | .str _ => isStr P t
  | _ => false
theorem srcA_ok {size n tx : Nat} {x : AV} {v : Value} {c : List AV} (hk : srcKind P tx x = true) (hs : srcA size x h = some (n, c)) (ho : ones c = true) (hx : VR φ x v) (r : Rel w0 φ h w) :
    ∃ us : List Value, VRl φ c us ∧ Src P size tx v n us w := by
  unfold srcA at hs
  split at hs
  · cases hs
    obtain ⟨e, hu⟩ := isSl_u hk
    simp only [VR] at hx; subst hx
    exact ⟨[], .nil, Src.ofNil w hu 0⟩
  · cases hs
    obtain ⟨e, hu⟩ := isSl_u hk
    simp only [VR] at hx; obtain ⟨a, k, rfl⟩ := hx
    exact ⟨[], .nil, Src.ofSlice w hu a 0 k [] (by simp) (by simp) (by simp)⟩
  · rename_i b off len cap op
    obtain ⟨e, hu⟩ := isSl_u hk
    simp only [VR] at hx
    obtain ⟨y, κ, hφ, hx⟩ := hx
    have hx' : ∃ k, v = .slice (some ⟨y, off, none⟩) len k := by rcases hx with ⟨_, _, hx⟩ | ⟨_, hx⟩ <;> exact ⟨_, hx⟩
    obtain ⟨k, rfl⟩ := hx'
    split at hs
    · rename_i c0 e' sz op' hb
      cases hc : Nat.ble (off + len * size) c0.length with
      | false => rw [hc] at hs; cases hs
      | true =>
        rw [hc, cond_true] at hs; cases hs
        obtain ⟨us, h1, h2, h3⟩ := r.cells hb hφ (ble_of hc)
        exact ⟨us, h2, Src.ofSlice w hu _ n k us h1 h3 (h2.ones ho)⟩
    · cases hs
  · rename_i l
    have hu := isStr_u hk
    simp only [VR] at hx; subst hx
    rcases beq_cases size 1 with ⟨q, rfl⟩ | ⟨q, _⟩
    · rw [q, cond_true] at hs; cases hs
      have := Src.ofString (P := P) w hu ⟨l.toArray⟩
      rw [S_size] at this
      exact ⟨_, VRl.bytes l, this⟩
    · rw [q, cond_false] at hs; cases hs
  · cases hs
end
section
variable (P : Program)
noncomputable def isZeros (t : Nat) : Option Bool := match P.underlying t with
  | some (.int _) => some true
  | some _ => some false
  | none => none
noncomputable def growA (s : AV) (e size n : Nat) (news : List AV) (h : AH) : Option (AV × AH) := match s with
  | .nils => bif Nat.beq n 0 then some (.nils, h) else bif h.roomy then some (.sl h.nx 0 n 0 true, h.add (.row news e size true)) else none
  | .sle => bif Nat.beq n 0 then some (.sle, h) else none
  | .sl b off len cap false => bif Nat.ble (len + n) cap then (match writeA h b (off + len * size) news with
      | some h' => some (.sl b off (len + n) cap false, h')
      | none => none) else match h.get b with
      | some (.row c _ _ _) => bif Nat.ble (off + len * size) c.length && h.roomy then some (.sl h.nx 0 (len + n) 0 true, h.add (.row ((c.drop off).take (len * size) ++ news) e size true)) else none
      | _ => none
  | .sl b off len d true => match h.get b with
    | some (.row c e' sz true) => bif Nat.beq sz size && Nat.beq off (d * size) then (bif Nat.beq n 0 then some (.sl b off len d true, h) else bif Nat.ble (off + (len + n) * size) c.length then (match writeA h b (off + len * size) news with
        | some h' => some (.sl b off (len + n) d true, h')
        | none => none) else bif Nat.beq d 0 && Nat.ble (len * size) c.length && h.roomy && h.mayPut b && Nat.beq e e' && ones news then some (.sl h.nx 0 (len + n) 0 true, (h.kill b).add (.row (c.take (len * size) ++ news) e size true)) else none) else none
    | _ => none
  | _ => none
noncomputable def appendA (t t2 : Nat) (s x : AV) (h : AH) : Option (AV × AH) := match P.underlying t with
  | some (.slice e) => match tsz P e with
    | some size => match tby P e with
      | some by_ => match zeroA P e with
        | some z => bif Nat.beq (cellsOf z).length size && !aggd z && Nat.blt 0 size then (match isZeros P t2 with
            | some false => match srcA size x h with
              | some (n, news) => bif ones news && srcKind P t2 x && lenOk s n by_ then growA s e size n news h else none
              | none => none
            | some true => match natOf x with
              | some n => bif Nat.blt 0 n && ones (cellsOf z) && Nat.ble n 1000000 && Nat.ble (n * by_) 1000000000 && lenOk s n by_ then growA s e size n (zeroRowA (cellsOf z) (n * size)) h else none
              | none => none
            | none => none) else none
        | none => none
      | none => none
    | none => none
  | _ => none
where lenOk (s : AV) (n by_ : Nat) : Bool := match s with
  | .sl _ _ len _ _ => Nat.ble (len + n) 1000000 && Nat.ble ((len + n) * by_) 1000000000
  | .nils => Nat.ble n 1000000 && Nat.ble (n * by_) 1000000000
  | .sle => Nat.ble n 1000000 && Nat.ble (n * by_) 1000000000
  | _ => false
end
section
variable {P : Program} {φ : Phi} {w0 : Base} {w : World} {h : AH}
structure App (P : Program) (φ : Phi) (e size by_ n : Nat) (s : Sem Value) (base : Option Addr) (len cap : Nat) (us : List Value) (w : World) : Prop where
  room : len + n ≤ cap → ∀ b off, base = some ⟨b, off, none⟩ → ∀ w', (storeCells ⟨b, off + len * size, none⟩ us).run P w = .ok () w' → s.run P w = .ok (.slice base (len + n) cap) w'
  none_ : base = none → n = 0 → len = 0 → s.run P w = .ok (.slice none 0 cap) w
  zero : n = 0 → len ≤ cap → s.run P w = .ok (.slice base len cap) w
  grow : cap < len + n → ∀ olds, (Builtin.firstCells size len (.slice base len cap)).run P w.drew = .ok olds w.drew → ∃ newCap rest, len + n ≤ newCap ∧ rest.length = (newCap - (len + n)) * size ∧
    s.run P w = .ok (.slice (some ⟨w.heap.size, 0, none⟩) (len + n) newCap) (w.drew.alloc (.cells ((olds.toList ++ us) ++ rest).toArray e))
theorem Rel.drew1 (r : Rel w0 φ h w) : Rel w0 φ h w.drew := ⟨⟨r.below.os, r.below.tape, r.below.output, r.below.size, r.below.block⟩, r.dom, r.ge, r.inj, r.obj, r.fro, r.gf⟩
theorem Rel.kill (r : Rel w0 φ h w) {b : Nat} (k : h.mayPut b = true) : Rel w0 φ (h.kill b) w :=
  ⟨r.below, r.dom, r.ge, fun c c' x κ κ' o o' h1 h2 e1 e2 => r.inj c c' x κ κ' o o' (AH.kill_get k h1).2 (AH.kill_get k h2).2 e1 e2, fun c o e => r.obj c o (AH.kill_get k e).2, r.fro, r.gf⟩
theorem AH.kill_roomy {b : Nat} (k : h.roomy = true) : (h.kill b).roomy = true := k
theorem Rel.adopt (r : Rel w0 φ h w) {w' : World} (k : h.roomy = true) {o : AO} {ob : Obj} {x κ : Nat} (hx : w0.w.heap.size ≤ x) (hfz : ∀ p ∈ w0.fz, p.1 ≠ x) (hfree : ∀ b o κ', h.get b = some o → φ b ≠ some (x, κ')) (ho : objR φ κ o ob)
    (hos : w'.os = w.os) (htape : w'.tape = w.tape) (hout : w'.output = w.output) (hsize : w'.heap.size = w.heap.size) (hhere : w'.heap[x]? = some ob) (hother : ∀ j, j ≠ x → w'.heap[j]? = w.heap[j]?) :
    Rel w0 (ext φ h.nx (x, κ)) (h.add o) w' := by
  have hle : φ.le (ext φ h.nx (x, κ)) := ext_le (r.dom _ (Nat.le_refl _))
  have hlt : x < w'.heap.size := (Array.getElem?_eq_some_iff.1 hhere).1
  refine ⟨r.below.trans ⟨hos, htape, hout, by rw [hsize]; exact Nat.le_refl _, fun j hj => hother j (by omega)⟩, ?_, ?_, ?_, ?_, fun p hp => (hother _ (hfz p hp)).trans (r.fro p hp), ?_⟩
  · intro b hb
    have hb' : h.nx + 1 ≤ b := hb
    unfold ext
    rw [if_neg (by omega)]; exact r.dom _ (by omega)
  · intro b y κ' e
    unfold ext at e
    split at e
    · cases e; exact ⟨hx, hlt⟩
    · have := r.ge _ _ _ e; exact ⟨this.1, by rw [hsize]; exact this.2⟩
  · intro b b' y κ1 κ2 o1 o2 h1 h2 e1 e2
    unfold ext at e1 e2
    by_cases hb : b = h.nx <;> by_cases hb' : b' = h.nx
    · omega
    · rw [if_pos hb] at e1; rw [if_neg hb'] at e2
      cases e1
      rw [AH.add_old hb'] at h2
      exact absurd e2 (hfree _ _ _ h2)
    · rw [if_neg hb] at e1; rw [if_pos hb'] at e2
      cases e2
      rw [AH.add_old hb] at h1
      exact absurd e1 (hfree _ _ _ h1)
    · rw [if_neg hb] at e1; rw [if_neg hb'] at e2
      rw [AH.add_old hb] at h1; rw [AH.add_old hb'] at h2
      exact r.inj _ _ _ _ _ _ _ h1 h2 e1 e2
  · intro b o' e
    by_cases hb : b = h.nx
    · subst hb
      rw [AH.add_new k] at e; cases e
      exact ⟨Nat.lt_succ_self _, x, κ, ob, ext_same _ _ _, hhere, ho.mono hle⟩
    · rw [AH.add_old hb] at e
      obtain ⟨hl, y, κ', ob', e1, e2, e3⟩ := r.obj _ _ e
      refine ⟨Nat.lt_succ_of_lt hl, y, κ', ob', hle _ _ e1, ?_, e3.mono hle⟩
      rw [hother y ?_]; exact e2
      rintro rfl; exact hfree _ _ _ e e1
  · intro b y κ' e p hp
    unfold ext at e
    split at e
    · cases e; exact hfz p hp
    · exact r.gf _ _ _ e p hp
theorem AH.kill_add_keep {b : Nat} {o : AO} (k : h.mayPut b = true) (k' : h.roomy = true) : Keep h ((h.kill b).add o) := (AH.kill_keep k).trans (AH.add_keep (AH.kill_roomy k'))
theorem grown_row {e size n len newCap : Nat} {c : List AV} {cells : List Value} {rest : List Value} (hc : VRl φ c cells) (hl : cells.length = (len + n) * size) (hcap : len + n ≤ newCap) (hr : rest.length = (newCap - (len + n)) * size) :
    objR φ newCap (.row c e size true) (.cells (cells ++ rest).toArray e (0, 0)) := by
  refine ⟨cells, _, rfl, hc, .inl ⟨rfl, ⟨rest, rfl⟩, ?_⟩⟩
  simp only [List.size_toArray, List.length_append, hl, hr, ← Nat.add_mul]
  congr 1; omega
theorem growA_ok {s a : AV} {sv : Value} {e size by_ n : Nat} {news : List AV} {us : List Value} {h' : AH} {sm : Sem Value} (hg : growA s e size n news h = some (a, h')) (hs : VR φ s sv) (hu : VRl φ news us) (hn : us.length = n * size) (hsz : 0 < size)
    (hlen : ∀ b off len cap op, s = .sl b off len cap op → len + n ≤ 1000000)
    (happ : ∀ base len cap, sv = .slice base len cap → App P φ e size by_ n sm base len cap us w) (r : Rel w0 φ h w) :
    SemOK P w0 φ h w sm a h' := by
  unfold growA at hg
  split at hg
  ·
    simp only [VR] at hs
    have ha := happ none 0 0 hs
    rcases beq_cases n 0 with ⟨q, rfl⟩ | ⟨q, q'⟩
    · rw [q, cond_true] at hg; cases hg
      exact ⟨φ, .slice none 0 0, w, Phi.le_refl _, ha.none_ rfl rfl rfl, by simp [VR], r, Keep.refl _⟩
    · rw [q, cond_false] at hg
      cases hc : h.roomy with
      | false => rw [hc] at hg; cases hg
      | true =>
        rw [hc, cond_true] at hg; cases hg
        obtain ⟨newCap, rest, g1, g2, g3⟩ := ha.grow (by omega) #[] rfl
        refine ⟨ext φ h.nx (w.heap.size, newCap), _, _, ext_le (r.dom _ (Nat.le_refl _)), g3, ?_, r.drew1.alloc hc ?_, AH.add_keep hc⟩
        · simp only [VR]
          exact ⟨_, _, ext_same _ _ _, .inl ⟨trivial, by omega, by simp⟩⟩
        · exact grown_row (len := 0) hu (by simpa using hn) g1 g2
  ·
    rcases beq_cases n 0 with ⟨q, rfl⟩ | ⟨q, q'⟩
    · rw [q, cond_true] at hg; cases hg
      have hs' := hs
      simp only [VR] at hs
      obtain ⟨p, c, rfl⟩ := hs
      exact ⟨φ, _, w, Phi.le_refl _, (happ _ _ _ rfl).zero rfl (Nat.zero_le _), hs', r, Keep.refl _⟩
    · rw [q, cond_false] at hg; cases hg
  ·
    rename_i b off len cap
    simp only [VR] at hs
    obtain ⟨x, κ, hφ, ⟨q0, _⟩ | ⟨_, rfl⟩⟩ := hs
    · cases q0
    have ha := happ _ _ _ rfl
    cases hr : Nat.ble (len + n) cap with
    | true =>
      rw [hr, cond_true] at hg
      split at hg
      · rename_i h1 hw
        cases hg
        obtain ⟨w', k1, k2, k3⟩ := writeA_ok (P := P) hw hu hφ r
        refine ⟨φ, _, w', Phi.le_refl _, ha.room (ble_of hr) _ _ rfl w' k1, ?_, k2, k3⟩
        simp only [VR]; exact ⟨x, κ, hφ, .inr ⟨trivial, rfl⟩⟩
      · cases hg
    | false =>
      rw [hr, cond_false] at hg
      have hgt : cap < len + n := by
        apply Nat.lt_of_not_le; intro hle
        rw [← Nat.ble_eq, hr] at hle; cases hle
      split at hg
      · rename_i c e' sz op hb
        cases hc : (Nat.ble (off + len * size) c.length && h.roomy) with
        | false => rw [hc] at hg; cases hg
        | true =>
          rw [hc, cond_true] at hg; cases hg
          simp only [Bool.and_eq_true] at hc
          obtain ⟨os, o1, o2, o3⟩ := r.drew1.load (P := P) hb hφ (ble_of hc.1)
          obtain ⟨newCap, rest, g1, g2, g3⟩ := ha.grow hgt os.toArray (by simpa only [Builtin.firstCells] using o3)
          refine ⟨ext φ h.nx (w.heap.size, newCap), _, _, ext_le (r.dom _ (Nat.le_refl _)), g3, ?_, r.drew1.alloc hc.2 ?_, AH.add_keep hc.2⟩
          · simp only [VR]
            exact ⟨_, _, ext_same _ _ _, .inl ⟨trivial, by omega, by simp⟩⟩
          · exact grown_row (len := len) (o2.append hu) (by rw [List.length_append, o1, hn, Nat.add_mul]) g1 g2
      · cases hg
  ·
    rename_i b off len d
    simp only [VR] at hs
    obtain ⟨x, κ, hφ, ⟨_, hκ, rfl⟩ | ⟨q0, _⟩⟩ := hs
    case inr => cases q0
    have ha := happ _ _ _ rfl
    split at hg
    · rename_i c e' sz hb
      cases hc : (Nat.beq sz size && Nat.beq off (d * size)) with
      | false => rw [hc] at hg; cases hg
      | true =>
        rw [hc, cond_true] at hg
        simp only [Bool.and_eq_true] at hc
        have hsz' := Nat.eq_of_beq_eq_true hc.1
        have hoff := Nat.eq_of_beq_eq_true hc.2
        subst hsz'
        rcases beq_cases n 0 with ⟨q, rfl⟩ | ⟨q, q'⟩
        · rw [q, cond_true] at hg; cases hg
          refine ⟨φ, _, w, Phi.le_refl _, ha.zero rfl (by omega), ?_, r, Keep.refl _⟩
          simp only [VR]; exact ⟨x, κ, hφ, .inl ⟨trivial, hκ, rfl⟩⟩
        · rw [q, cond_false] at hg
          obtain ⟨cs, vs, rest, e1, e2, e3, e4⟩ := r.row hb hφ
          have hcsz : cs.size = κ * sz := by
            rcases e4 with ⟨_, h2⟩ | ⟨h2, _⟩
            · exact h2
            · cases h2
          have hvl := e2.length
          have hcl : cs.size = vs.length + rest.length := by have := congrArg List.length e3; simpa using this
          cases hin : Nat.ble (off + (len + n) * sz) c.length with
          | true =>
            rw [hin, cond_true] at hg
            split at hg
            · rename_i h1 hw
              cases hg
              obtain ⟨w', k1, k2, k3⟩ := writeA_ok (P := P) hw hu hφ r
              have hroom : d + (len + n) ≤ κ := by
                have h3 := ble_of hin
                have h4 : (d + (len + n)) * sz ≤ κ * sz := by rw [← hcsz, hcl, hvl, Nat.add_mul, ← hoff]; omega
                exact Nat.le_of_mul_le_mul_right h4 hsz
              refine ⟨φ, _, w', Phi.le_refl _, ha.room (by omega) _ _ rfl w' k1, ?_, k2, k3⟩
              simp only [VR]; exact ⟨x, κ, hφ, .inl ⟨trivial, by omega, rfl⟩⟩
            · cases hg
          | false =>
            rw [hin, cond_false] at hg
            cases hcc : (Nat.beq d 0 && Nat.ble (len * sz) c.length && h.roomy && h.mayPut b && Nat.beq e e' && ones news) with
            | false => rw [hcc] at hg; cases hg
            | true =>
              rw [hcc, cond_true] at hg; cases hg
              simp only [Bool.and_eq_true] at hcc
              obtain ⟨⟨⟨⟨⟨c1, c2⟩, c3⟩, c4⟩, c5⟩, c6⟩ := hcc
              have hd := Nat.eq_of_beq_eq_true c1
              subst hd
              rw [Nat.zero_mul] at hoff
              subst hoff
              have he := Nat.eq_of_beq_eq_true c5
              subst he
              have c2' := ble_of c2
              have hcells : VRl φ (c.take (len * sz) ++ news) (vs.take (len * sz) ++ us) := (e2.take _).append hu
              have hcl' : (vs.take (len * sz) ++ us).length = (len + n) * sz := by rw [List.length_append, List.length_take, hn, Nat.add_mul]; omega
              by_cases hfit : len + n ≤ κ
              ·
                have hle : (len + n) * sz ≤ κ * sz := Nat.mul_le_mul_right _ hfit
                have hlm : (len + n) * sz = len * sz + n * sz := Nat.add_mul _ _ _
                have hrun := run_storeCells_at P x (0 + len * sz) e us 0 cs w e1 (by omega) (hu.ones c6)
                have hnew : (cs.toList.take (0 + len * sz + 0) ++ us ++ cs.toList.drop (0 + len * sz + 0 + us.length)) = (vs.take (len * sz) ++ us) ++ cs.toList.drop ((len + n) * sz) := by
                  rw [show 0 + len * sz + 0 = len * sz by omega, hn, hlm]
                  rw [e3, take_append_le (by omega)]
                rw [hnew] at hrun
                refine ⟨ext φ h.nx (x, κ), _, _, ext_le (r.dom _ (Nat.le_refl _)), ha.room (by omega) _ _ rfl _ hrun, ?_, ?_, AH.kill_add_keep c4 c3⟩
                · simp only [VR]
                  exact ⟨_, _, ext_same _ _ _, .inl ⟨trivial, by omega, by simp⟩⟩
                · have hx := r.ge _ _ _ hφ
                  refine (r.kill c4).adopt (AH.kill_roomy c3) (ob := .cells ((vs.take (len * sz) ++ us) ++ cs.toList.drop ((len + n) * sz)).toArray e (0, 0)) hx.1 (r.gf _ _ _ hφ) ?_ ?_ rfl rfl rfl (by simp) (setRow_heap w x cs _ e _ e1) (fun j hj => setRow_other w x j _ hj)
                  · intro b' o' κ' hb' hφ'
                    have := AH.kill_get c4 hb'
                    exact this.1 (r.inj _ _ _ _ _ _ _ this.2 hb hφ' hφ)
                  · refine grown_row (len := len) hcells hcl' hfit ?_
                    rw [List.length_drop, Array.length_toList, hcsz, Nat.sub_mul]
              ·
                obtain ⟨os, o1, o2, o3⟩ := r.drew1.load (P := P) hb hφ (o := 0) (n := len * sz) (by omega)
                obtain ⟨newCap, rest', g1, g2, g3⟩ := ha.grow (by omega) os.toArray (by simpa only [Builtin.firstCells] using o3)
                refine ⟨ext φ h.nx (w.heap.size, newCap), _, _, ext_le (r.dom _ (Nat.le_refl _)), g3, ?_, (r.drew1.kill c4).alloc (AH.kill_roomy c3) ?_, AH.kill_add_keep c4 c3⟩
                · simp only [VR]
                  exact ⟨_, _, ext_same _ _ _, .inl ⟨trivial, by omega, by simp⟩⟩
                · rw [List.drop_zero] at o2
                  exact grown_row (len := len) (o2.append hu) (by rw [List.length_append, o1, hn, Nat.add_mul]) g1 g2
    · cases hg
  · cases hg
end
end Ev
end Go.Proofs.YtaegacblpbbndaaDoor
end
