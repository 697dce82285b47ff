/- The texts Ev2 of the proof, joined. Each says at its theorems what it proves. -/
import Derived.Test.YtaegacblpbbndaaDoorJ0
import Derived.Laws.Entries
import Derived.Lib.Strings
set_option linter.unusedSimpArgs false
set_option linter.unusedVariables false
section
namespace Go.Proofs.YtaegacblpbbndaaDoor
open Go Go.RowKit
set_option linter.unusedSimpArgs false
set_option linter.unusedVariables false
namespace Ev
noncomputable def ofS : Value → Option AV
  | .bool b => some (.bool b)
  | .int k n => some (.int k n)
  | .string s => some (.str s.data.toList)
  | .float k b => some (.raw (.float k b))
  | .complex k a b => some (.raw (.complex k a b))
  | .pointer none => some .nilp
  | .slice none 0 0 => some .nils
  | .map none => some .nilm
  | .nilFunc => some .nilf
  | .nilIface => some .nili
  | _ => none
noncomputable def ofSs : List Value → Option (List AV)
  | [] => some []
  | v :: l => match ofS v with
    | some a => match ofSs l with
      | some b => some (a :: b)
      | none => none
    | none => none
noncomputable def ofV : Value → Option AV
  | .agg cs => match ofSs cs.toList with
    | some l => some (.agg l)
    | none => none
  | .tuple cs => match cs.toList with
    | [] => some (.tup [])
    | _ => none
  | v => ofS v
theorem ofS_VR {φ : Phi} {v : Value} {a : AV} (h : ofS v = some a) : VR φ a v := by
  unfold ofS at h
  split at h <;> first | (cases h; simp [VR]; done) | cases h
theorem ofSs_VR {φ : Phi} : ∀ {l : List Value} {as : List AV}, ofSs l = some as → VRl φ as l
  | [], _, h => by cases h; exact .nil
  | v :: l, _, h => by
    unfold ofSs at h
    split at h
    · rename_i a ha
      split at h
      · rename_i b hb; cases h; exact .cons (ofS_VR ha) (ofSs_VR hb)
      · cases h
    · cases h
theorem ofV_VR {φ : Phi} {v : Value} {a : AV} (h : ofV v = some a) : VR φ a v := by
  unfold ofV at h
  split at h
  · rename_i cs
    split at h
    · rename_i l hl; cases h; simp only [VR]; exact ⟨cs.toList, ofSs_VR hl, by simp⟩
    · cases h
  · rename_i cs
    split at h
    · rename_i hl; cases h; simp only [VR]; refine ⟨[], .nil, ?_⟩
      have : cs = #[] := by apply Array.ext'; simpa using hl
      rw [this]
    · cases h
  · exact ofS_VR h
noncomputable def pr {α : Type} (P : Program) : Sem α → Option α
  | .pure a => some a
  | .program k => pr P (k P)
  | .mark _ k => pr P k
  | _ => none
theorem pr_run {α : Type} {P : Program} : ∀ {s : Sem α} {a : α}, pr P s = some a → ∀ w, s.run P w = .ok a w := by
  intro s
  induction s with
  | pure a => intro b h w; simp only [pr, Option.some.injEq] at h; subst h; rfl
  | program k ih => intro b h w; simp only [pr] at h; exact ih P h w
  | mark m k ih => intro b h w; simp only [pr] at h; exact ih h w
  | _ => intro b h; simp [pr] at h
noncomputable def tsz (P : Program) (t : Nat) : Option Nat := match P.info? t with
  | some i => some i.size
  | none => none
theorem tsz_run {P : Program} {t n : Nat} (h : tsz P t = some n) (w : World) : (sizeOf t).run P w = .ok n w := by
  unfold tsz at h
  split at h
  · rename_i i hi; cases h; simp [sizeOf, typeInfo, hi, go_sem]
  · cases h
noncomputable def aggT (P : Program) (t : Nat) : Option Bool := match P.underlying t with
  | some (.struct _) => some true
  | some (.array _ _) => some true
  | some _ => some false
  | none => none
theorem aggT_run {P : Program} {t : Nat} {b : Bool} (h : aggT P t = some b) (w : World) : (isAgg t).run P w = .ok b w := by
  unfold aggT at h
  split at h
  · rename_i d hd; cases h; simp [isAgg, run_underlying hd, go_sem]
  · rename_i d hd; cases h; simp [isAgg, run_underlying hd, go_sem]
  · rename_i d h1 h2 hd
    cases h
    cases d <;> first | (simp [isAgg, run_underlying hd, go_sem]; done) | exact (h1 _ rfl).elim | exact (h2 _ _ rfl).elim
  · cases h
noncomputable def zeroA (P : Program) (t : Nat) : Option AV := match P.info? t with
  | some i => match i.zero with
    | some z => ofV z
    | none => none
  | none => none
theorem zeroA_run {P : Program} {t : Nat} {a : AV} (h : zeroA P t = some a) {φ : Phi} : ∃ v, (∀ w, (zeroValue t).run P w = .ok v w) ∧ VR φ a v := by
  unfold zeroA at h
  split at h
  · rename_i i hi
    split at h
    · rename_i z hz; exact ⟨z, fun w => by simp [zeroValue, typeInfo, hi, hz, go_sem], ofV_VR h⟩
    · cases h
  · cases h
noncomputable def partA (P : Program) (t : Nat) (l : List AV) (off : Nat) : Option AV := match aggT P t with
  | some true => match tsz P t with
    | some n => some (.agg ((l.drop off).take n))
    | none => none
  | some false => l[off]?
  | none => none
theorem partA_run {P : Program} {t off : Nat} {l : List AV} {a : AV} {φ : Phi} {vs : List Value} (h : partA P t l off = some a) (hl : VRl φ l vs) : ∃ v, (∀ w, (part t vs.toArray off).run P w = .ok v w) ∧ VR φ a v := by
  unfold partA at h
  split at h
  · rename_i ha
    split at h
    · rename_i n hn
      cases h
      refine ⟨.agg ((vs.drop off).take n).toArray, fun w => ?_, by simp only [VR]; exact ⟨_, (hl.drop off).take n, rfl⟩⟩
      have : vs.toArray.extract off (off + n) = ((vs.drop off).take n).toArray := by
        apply Array.ext'; simp [List.take_drop]
      simp [part, aggT_run ha, tsz_run hn, this, go_sem]
    · cases h
  · rename_i ha
    obtain ⟨v, hv, hr⟩ := hl.get h
    exact ⟨v, fun w => by simp [part, aggT_run ha, hv, go_sem], hr⟩
  · cases h
noncomputable def putCells : List AV → Nat → List AV → List AV
  | l, _, [] => l
  | l, o, a :: r => putCells (l.set o a) (o + 1) r
noncomputable def fillA (place : Nat → Option (Nat × Nat)) (cells : List AV) : List (Nat × AV) → Option (List AV)
  | [] => some cells
  | (i, a) :: rest => match place i with
    | none => none
    | some (off, size) =>
      bif Nat.beq (cellsOf a).length size && Nat.ble (off + (cellsOf a).length) cells.length && !aggd a then fillA place (putCells cells off (cellsOf a)) rest else none
theorem VRl.set {φ : Phi} : ∀ {l : List AV} {vs : List Value} (i : Nat) {a : AV} {v : Value}, VRl φ l vs → VR φ a v → VRl φ (l.set i a) (vs.set i v)
  | [], _, _, _, _, h, _ => by rw [h.nil_inv]; simp only [List.set_nil]; exact .nil
  | _ :: _, _, 0, _, _, h, k => by obtain ⟨v, vs', rfl, h1, h2⟩ := h.cons_inv; simp only [List.set_cons_zero]; exact .cons k h2
  | _ :: _, _, i + 1, _, _, h, k => by obtain ⟨v, vs', rfl, h1, h2⟩ := h.cons_inv; simp only [List.set_cons_succ]; exact .cons h1 (VRl.set i h2 k)
theorem foldl_put (φ : Phi) : ∀ (as : List AV) (us : List Value) (l : List AV) (cs : Array Value) (o j : Nat), VRl φ as us → VRl φ l cs.toList →
    VRl φ (putCells l (o + j) as) ((us.zipIdx j).foldl (fun cs (c, j) => cs.setIfInBounds (o + j) c) cs).toList
  | [], us, l, cs, o, j, h, k => by rw [h.nil_inv]; simpa [putCells] using k
  | a :: as, _, l, cs, o, j, h, k => by
    obtain ⟨v, us, rfl, h1, h2⟩ := h.cons_inv
    simp only [putCells, List.zipIdx_cons, List.foldl_cons]
    rw [Nat.add_assoc]
    refine foldl_put φ as us _ _ o (j + 1) h2 ?_
    rw [Array.toList_setIfInBounds]
    exact k.set _ h1
def NR (φ : Phi) : List (Nat × AV) → List (Nat × Value) → Prop
  | [], l => l = []
  | (i, a) :: r, l => ∃ v l', l = (i, v) :: l' ∧ VR φ a v ∧ NR φ r l'
theorem fillA_run {φ : Phi} (place : Nat → Option (Nat × Nat)) : ∀ (ps : List (Nat × AV)) (qs : List (Nat × Value)) (l : List AV) (cs : Array Value) (r : List AV), fillA place l ps = some r → NR φ ps qs → VRl φ l cs.toList →
    ∃ rs : Array Value, Instr.fill place cs qs = some rs ∧ VRl φ r rs.toList
  | [], qs, l, cs, r, h, k, hl => by
    simp only [NR] at k; subst k; cases h; exact ⟨cs, rfl, hl⟩
  | (i, a) :: ps, qs, l, cs, r, h, k, hl => by
    simp only [NR] at k
    obtain ⟨v, l', rfl, h1, h2⟩ := k
    unfold fillA at h
    unfold Instr.fill
    cases hp : place i with
    | none => rw [hp] at h; cases h
    | some x =>
      obtain ⟨off, size⟩ := x
      rw [hp] at h
      simp only at h ⊢
      cases hb : (Nat.beq (cellsOf a).length size && Nat.ble (off + (cellsOf a).length) l.length && !aggd a) with
      | false => rw [hb] at h; cases h
      | true =>
        rw [hb, cond_true] at h
        simp only [Bool.and_eq_true, Bool.not_eq_true'] at hb
        obtain ⟨⟨hb1, hb2⟩, hb3⟩ := hb
        have hc := h1.cells hb3
        have e1 : v.cells.size = size := by have := hc.length; simp only [Array.length_toList] at this; rw [this]; exact Nat.eq_of_beq_eq_true hb1
        have e2 : ¬ (off + v.cells.size > cs.size) := by
          have := hc.length; simp only [Array.length_toList] at this
          have h3 := hl.length; simp only [Array.length_toList] at h3
          have := Nat.le_of_ble_eq_true hb2
          omega
        have e3 : (v.cells.size ≠ size || off + v.cells.size > cs.size) = false := by simp [e1]; omega
        rw [if_neg (by simp [e1]; rw [e1] at e2; omega)]
        refine fillA_run place ps l' _ _ r h h2 ?_
        have := foldl_put φ (cellsOf a) v.cells.toList l cs off 0 hc hl
        rw [← Array.foldl_toList, Array.toList_zipIdx]
        simpa using this
section
variable (P : Program) (ev : Operand → Option AV)
noncomputable def toV : AV → Option Value
  | .bool b => some (.bool b)
  | .int k n => some (.int k n)
  | .raw v => some v
  | _ => none
noncomputable def sc (x : Operand) : Value := match ev x with
  | some a => match toV a with
    | some v => v
    | none => undef
  | none => undef
noncomputable def isSc (x : Operand) : Bool := match ev x with
  | some a => match toV a with
    | some _ => true
    | none => false
  | none => false
noncomputable def allSc : List Operand → Bool
  | [] => true
  | x :: l => isSc ev x && allSc l
noncomputable def ofScal : Value → Option AV
  | .bool b => some (.bool b)
  | .int k n => some (.int k n)
  | .float k b => some (.raw (.float k b))
  | .complex k a b => some (.raw (.complex k a b))
  | .string s => some (.str s.data.toList)
  | _ => none
noncomputable def notSel : Op → Bool
  | .select _ _ => false
  | _ => true
noncomputable def scal (o : Oper) : Option AV := bif notSel o.op && allSc ev o.op.operands.toList then match pr P (execOp (sc ev) o) with
  | some (.value v) => ofScal v
  | _ => none else none
noncomputable def toV0 : AV → Option Value
  | .str l => some (.string ⟨l.toArray⟩)
  | .nilp => some (.pointer none)
  | .nilm => some (.map none)
  | .nilf => some .nilFunc
  | .nili => some .nilIface
  | a => toV a
noncomputable def toV0s : List AV → Option (List Value)
  | [] => some []
  | a :: l => match toV0 a with
    | some v => match toV0s l with
      | some r => some (v :: r)
      | none => none
    | none => none
noncomputable def toVS : AV → Option Value
  | .str l => some (.string ⟨l.toArray⟩)
  | .fn f [] [] => some (.func (.func f) #[] #[])
  | .agg l => match toV0s l with
    | some r => some (.agg r.toArray)
    | none => none
  | a => toV a
noncomputable def scS (x : Operand) : Value := match ev x with
  | some a => match toVS a with
    | some v => v
    | none => undef
  | none => undef
noncomputable def isScS (x : Operand) : Bool := match ev x with
  | some a => match toVS a with
    | some _ => true
    | none => false
  | none => false
noncomputable def allScS : List Operand → Bool
  | [] => true
  | x :: l => isScS ev x && allScS l
noncomputable def bodyless (f : Nat) : Bool := match P.funcs[f]? with
  | some fn => fn.body.isNone
  | none => false
noncomputable def scalS (o : Oper) : Option AV := bif notSel o.op && allScS ev o.op.operands.toList then match pr P (execOp (scS ev) o) with
  | some (.value v) => ofScal v
  | _ => none else none
noncomputable def externA (o : Oper) : Option AV := match o.op with
  | .call c => match c.callee with
    | .value x => match ev x with
      | some (.fn f [] []) => bif bodyless P f && allScS ev o.op.operands.toList then match pr P (execOp (scS ev) o) with
          | some (.value v) => ofScal v
          | _ => none else none
      | _ => none
    | _ => none
  | _ => none
end
def EVR (φ : Phi) (ev : Operand → Option AV) (ρ : Operand → Value) : Prop := ∀ x a, ev x = some a → VR φ a (ρ x)
section
variable {P : Program} {ev : Operand → Option AV} {φ : Phi} {ρ : Operand → Value}
theorem toV_VR {a : AV} {v u : Value} (h : toV a = some v) (k : VR φ a u) : u = v := by
  cases a <;> simp only [toV, Option.some.injEq, reduceCtorEq] at h <;> subst h <;> simpa only [VR] using k
theorem isSc_eq (hev : EVR φ ev ρ) {x : Operand} (h : isSc ev x = true) : sc ev x = ρ x := by
  unfold isSc at h
  unfold sc
  split at h
  · rename_i a ha
    split at h
    · rename_i v hv
      exact (toV_VR hv (hev _ _ ha)).symm
    · cases h
  · cases h
theorem allSc_eq (hev : EVR φ ev ρ) : ∀ {l : List Operand}, allSc ev l = true → ∀ x ∈ l, sc ev x = ρ x
  | [], _ => by simp
  | y :: l, h => by
    simp only [allSc, Bool.and_eq_true] at h
    intro x hx
    rcases List.mem_cons.1 hx with rfl | hx
    · exact isSc_eq hev h.1
    · exact allSc_eq hev h.2 x hx
theorem ofScal_VR {v : Value} {a : AV} (h : ofScal v = some a) : VR φ a v := by
  unfold ofScal at h
  split at h <;> first | (cases h; simp [VR]; done) | cases h
def PureOK (P : Program) (φ : Phi) (ρ : Operand → Value) (o : Oper) (a : AV) : Prop := ∃ v, (∀ w, (execOp ρ o).run P w = .ok (.value v) w) ∧ VR φ a v
theorem scal_ok (hev : EVR φ ev ρ) {o : Oper} {a : AV} (h : scal P ev o = some a) : PureOK P φ ρ o a := by
  unfold scal at h
  cases hb : (notSel o.op && allSc ev o.op.operands.toList) with
  | false => rw [hb] at h; cases h
  | true =>
    rw [hb, cond_true] at h
    simp only [Bool.and_eq_true] at hb
    split at h
    · rename_i v hv
      refine ⟨v, fun w => ?_, ofScal_VR h⟩
      have he : execOp ρ o = execOp (sc ev) o := execOp_congr o (fun cs b e => by rw [e] at hb; simp [notSel] at hb) (fun x hx => (allSc_eq hev hb.2 x (by simpa using hx)).symm)
      rw [he]; exact pr_run hv w
    · cases h
theorem toV0_VR {a : AV} {v u : Value} (h : toV0 a = some v) (k : VR φ a u) : u = v := by
  unfold toV0 at h
  split at h <;> first | (cases h; simpa only [VR] using k) | exact toV_VR h k
theorem toV0s_VR : ∀ {l : List AV} {vs us : List Value}, toV0s l = some vs → VRl φ l us → us = vs
  | [], _, _, h, k => by cases h; exact k.nil_inv
  | a :: l, _, _, h, k => by
    unfold toV0s at h
    split at h
    · rename_i v hv
      split at h
      · rename_i r hr
        cases h
        obtain ⟨u, us', rfl, k1, k2⟩ := k.cons_inv
        rw [toV0_VR hv k1, toV0s_VR hr k2]
      · cases h
    · cases h
theorem toVS_VR {a : AV} {v u : Value} (h : toVS a = some v) (k : VR φ a u) : u = v := by
  unfold toVS at h
  split at h
  · cases h; simpa only [VR] using k
  · cases h
    simp only [VR] at k
    obtain ⟨vf, vc, h1, h2, k⟩ := k
    rw [h1.nil_inv, h2.nil_inv] at k; exact k
  · split at h
    · rename_i r hr
      cases h
      simp only [VR] at k
      obtain ⟨us, k1, k⟩ := k
      rw [toV0s_VR hr k1] at k; exact k
    · cases h
  · exact toV_VR h k
theorem isScS_eq (hev : EVR φ ev ρ) {x : Operand} (h : isScS ev x = true) : scS ev x = ρ x := by
  unfold isScS at h
  unfold scS
  split at h
  · rename_i a ha
    split at h
    · rename_i v hv
      exact (toVS_VR hv (hev _ _ ha)).symm
    · cases h
  · cases h
theorem allScS_eq (hev : EVR φ ev ρ) : ∀ {l : List Operand}, allScS ev l = true → ∀ x ∈ l, scS ev x = ρ x
  | [], _ => by simp
  | y :: l, h => by
    simp only [allScS, Bool.and_eq_true] at h
    intro x hx
    rcases List.mem_cons.1 hx with rfl | hx
    · exact isScS_eq hev h.1
    · exact allScS_eq hev h.2 x hx
theorem scalS_ok (hev : EVR φ ev ρ) {o : Oper} {a : AV} (h : scalS P ev o = some a) : PureOK P φ ρ o a := by
  unfold scalS at h
  cases hb : (notSel o.op && allScS ev o.op.operands.toList) with
  | false => rw [hb] at h; cases h
  | true =>
    rw [hb, cond_true] at h
    simp only [Bool.and_eq_true] at hb
    split at h
    · rename_i v hv
      refine ⟨v, fun w => ?_, ofScal_VR h⟩
      have he : execOp ρ o = execOp (scS ev) o := execOp_congr o (fun cs b e => by rw [e] at hb; simp [notSel] at hb) (fun x hx => (allScS_eq hev hb.2 x (by simpa using hx)).symm)
      rw [he]; exact pr_run hv w
    · cases h
theorem externA_ok (hev : EVR φ ev ρ) {o : Oper} {a : AV} (h : externA P ev o = some a) : PureOK P φ ρ o a := by
  unfold externA at h
  split at h
  · rename_i c hop
    split at h
    · split at h
      · rename_i f _
        cases hb : (bodyless P f && allScS ev o.op.operands.toList) with
        | false => rw [hb] at h; cases h
        | true =>
          rw [hb, cond_true] at h
          simp only [Bool.and_eq_true] at hb
          split at h
          · rename_i v hv
            refine ⟨v, fun w => ?_, ofScal_VR h⟩
            have he : execOp ρ o = execOp (scS ev) o := execOp_congr o (fun cs b e => by rw [hop] at e; cases e) (fun x hx => (allScS_eq hev hb.2 x (by simpa using hx)).symm)
            rw [he]; exact pr_run hv w
          · cases h
      · cases h
    · cases h
  · cases h
end
end Ev
end Go.Proofs.YtaegacblpbbndaaDoor
end
