/- The texts EvL of the proof, joined. Each says at its theorems what it proves. -/
import Derived.Test.YtaegacblpbbndaaDoorJ12
import Derived.Lib.Builder
import Derived.Lib.UnsafeStr
import Derived.Lib.MakeNoZero
set_option linter.unusedSimpArgs false
set_option linter.unusedVariables false
section
namespace Go.Proofs.YtaegacblpbbndaaDoor
open Go Go.RowKit
set_option linter.unusedSimpArgs false
set_option linter.unusedVariables false
namespace Ev
noncomputable def byteOf : AV → Option UInt8
  | .int .u8 (.ofNat k) => bif Nat.blt k 256 then some (UInt8.ofNat k) else none
  | _ => none
noncomputable def bytesOf : Nat → List AV → Option (List UInt8)
  | 0, _ => some []
  | _ + 1, [] => none
  | n + 1, a :: l => match byteOf a with
    | some b => match bytesOf n l with
      | some r => some (b :: r)
      | none => none
    | none => none
noncomputable def sizedT (P : Program) (t : Nat) : Bool := match P.info? t with
  | some j => !Nat.beq j.size 0
  | none => false
noncomputable def xConvTo (P : Program) (s d b off : Nat) (h : AH) : Bool := match h.get b with
  | some (.row c e _ false) => match P.underlying s with
    | some (.pointer t) => match P.underlying d with
      | some .unsafePointer => sizedT P t && Nat.blt off c.length
      | _ => false
    | some .unsafePointer => match P.underlying d with
      | some (.pointer u) => (P.info? u).isSome && liesAt P P.depth e (c.length / P.cellsOf e) off u 1
      | _ => false
    | _ => false
  | _ => false
noncomputable def xExtern (P : Program) (fn : Func) (args : List AV) (h : AH) : Option (AV × AH) :=
  bif fn.body.isNone && !(fn.name == "runtime.NumGoroutine") && (Extern.findNext fn).isNone then
    bif fn.name == "internal/abi.NoEscape" then match args with
      | [a] => some (a, h)
      | _ => none
    else bif fn.name == "internal/bytealg.MakeNoZero" then match args with
      | [.int .i64 (.ofNat n)] => match fn.resultTypes.toList with
        | [t] => match P.underlying t with
          | some (.slice e) => bif Nat.ble n 281474976710656 && h.roomy then some (.sl h.nx 0 n 0 true, h.add (.row [] e 1 true)) else none
          | _ => none
        | _ => none
      | _ => none
    else none
  else none
noncomputable def xString (P : Program) (pt : Nat) (p : AV) (n : Nat) (h : AH) : Option (AV × AH) := match n with
  | 0 => match p with
    | .nilp => some (.str [], h)
    | .ptr _ _ => some (.str [], h)
    | _ => none
  | _ => match p with
    | .ptr b 0 => match h.get b with
      | some (.row c e _ _) => match P.underlying pt with
        | some (.pointer e') => bif Nat.beq e' e && Nat.beq (P.cellsOf e) 1 && Nat.ble n c.length && Nat.ble n 9223372036854775807 && h.mayPut b then match bytesOf n c with
          | some l => some (.str l, h.kill b)
          | none => none else none
        | _ => none
      | _ => none
    | _ => none
noncomputable def xCall (P : Program) (ev : Operand → Option AV) (c : Call) (h : AH) : Option (AV × AH) := match c.callee with
  | .value x => match ev x with
    | some (.fn f [] []) => match evs ev c.args.toList with
      | some l => match P.funcs[f]? with
        | some fn => xExtern P fn l h
        | none => none
      | none => none
    | _ => none
  | .builtin .unsafeSliceData => match c.args.toList with
    | [x] => match ev x with
      | some .nils => some (.nilp, h)
      | some (.sl b o len cap op) => bif cond op (!Nat.beq len 0) (!Nat.beq cap 0) then some (.ptr b o, h) else none
      | _ => none
    | _ => none
  | .builtin .unsafeString => match c.args.toList with
    | [x, y] => match c.argTypes.toList with
      | [pt, _] => match ev x with
        | some p => match ev y with
          | some (.int .i64 (.ofNat n)) => xString P pt p n h
          | _ => none
        | none => none
      | _ => none
    | _ => none
  | _ => none
noncomputable def xSame (P : Program) (t b o b' o' : Nat) : Bool := Nat.beq b b' && Nat.beq o o' && (match P.underlying t with
  | some (.pointer te) => (P.info? te).isSome
  | _ => false)
noncomputable def xBin (P : Program) (ev : Operand → Option AV) (op : Go.BinOp) (t : Nat) (x y : Operand) (h : AH) : Option (AV × AH) := match ev x with
  | some (.ptr b o) => match ev y with
    | some (.ptr b' o') => bif xSame P t b o b' o' then (match op with
      | .eql => some (.bool true, h)
      | .neq => some (.bool false, h)
      | _ => none) else none
    | _ => none
  | _ => none
noncomputable def extraA (P : Program) (ev : Operand → Option AV) (o : Oper) (h : AH) : Option (AV × AH) := match o.op with
  | .convert s d x => match ev x with
    | some (.ptr b off) => bif xConvTo P s d b off h then some (.ptr b off, h) else none
    | _ => none
  | .call c => xCall P ev c h
  | .binOp op t x y _ => xBin P ev op t x y h
  | _ => none
noncomputable def opValX (P : Program) (call : Nat → List AV → AH → Rs (CR × AH)) (ev : Operand → Option AV) (o : Oper) (h : AH) : Rs (CR × AH) := match opVal P call ev o h with
  | .ok r => .ok r
  | .bad c x => match extraA P ev o h with
    | some (a, h') => .ok (.ret a, h')
    | none => .bad c x
section
variable {P : Program} {w0 : Base} {w : World} {φ : Phi} {ρ : Operand → Value} {h : AH} {ev : Operand → Option AV}
theorem byteOf_ok {a : AV} {b : UInt8} {v : Value} (h : byteOf a = some b) (k : VR φ a v) : v = Value.int .u8 b.toNat := by
  unfold byteOf at h
  split at h
  · rename_i n
    cases hk : Nat.blt n 256 with
    | false => simp only [hk, cond_false, reduceCtorEq] at h
    | true =>
      simp only [hk, cond_true, Option.some.injEq] at h
      subst h
      simp only [VR] at k
      rw [k]
      have hlt : n < 256 := Nat.le_of_ble_eq_true hk
      have : (UInt8.ofNat n).toNat = n := by rw [UInt8.toNat_ofNat']; omega
      rw [this]; rfl
  · cases h
theorem bytesOf_ok : ∀ {n : Nat} {c : List AV} {l : List UInt8} {vs : List Value}, bytesOf n c = some l → VRl φ c vs → l.length = n ∧ ∀ (j : Nat) (x : UInt8), l[j]? = some x → vs[j]? = some (Value.int .u8 x.toNat)
  | 0, c, l, vs, hb, _ => by
    simp only [bytesOf, Option.some.injEq] at hb
    subst hb
    exact ⟨rfl, fun j x hx => by simp at hx⟩
  | n + 1, [], l, vs, hb, _ => by simp [bytesOf] at hb
  | n + 1, a :: c, l, vs, hb, hv => by
    obtain ⟨v, vs', rfl, h1, h2⟩ := hv.cons_inv
    simp only [bytesOf] at hb
    split at hb
    · rename_i b hbb
      split at hb
      · rename_i r hr
        cases hb
        obtain ⟨i1, i2⟩ := bytesOf_ok hr h2
        refine ⟨by simp [i1], fun j x hx => ?_⟩
        cases j with
        | zero =>
          simp only [List.getElem?_cons_zero, Option.some.injEq] at hx ⊢
          subst hx
          exact byteOf_ok hbb h1
        | succ j => simp only [List.getElem?_cons_succ] at hx ⊢; exact i2 j x hx
      · cases hb
    · cases hb
theorem shape_row {x κ : Nat} {c : List AV} {e sz : Nat} {op : Bool} {ob : Obj} (h1 : w.heap[x]? = some ob) (h2 : objR φ κ (.row c e sz op) ob) :
    ∃ vs cs, ob = .cells cs e (0, 0) ∧ VRl φ c vs ∧ w.shape? x = some (e, cs.size) ∧ c.length ≤ cs.size ∧ (op = false → cs.size = c.length) ∧ ∀ (j : Nat) (v : Value), vs[j]? = some v → cs[j]? = some v := by
  obtain ⟨vs, cs, rfl, hv, hh⟩ := h2
  refine ⟨vs, cs, rfl, hv, by simp [World.shape?, h1], ?_, ?_, ?_⟩
  · have := hv.length
    rcases hh with ⟨_, ⟨rest, hr⟩, _⟩ | ⟨_, hr⟩
    · have h3 := congrArg List.length hr
      simp at h3; omega
    · have h3 := congrArg List.length hr
      simp at h3; omega
  · intro ho
    rcases hh with ⟨h4, _⟩ | ⟨_, hr⟩
    · rw [ho] at h4; cases h4
    · have h3 := congrArg List.length hr
      have := hv.length
      simp at h3; omega
  · intro j v hj
    have : cs.toList[j]? = some v := by
      rcases hh with ⟨_, ⟨rest, hr⟩, _⟩ | ⟨_, hr⟩
      · rw [hr, List.getElem?_append_left (List.getElem?_eq_some_iff.1 hj).1]; exact hj
      · rw [hr]; exact hj
    simpa using this
theorem sizedT_ok {t : Nat} (h1 : sizedT P t = true) : ∃ j, P.info? t = some j ∧ j.size ≠ 0 := by
  unfold sizedT at h1
  split at h1
  · rename_i j hj
    refine ⟨j, hj, ?_⟩
    intro h0
    rw [h0] at h1; cases h1
  · cases h1
theorem xConv_ok {s d b off : Nat} (hx : xConvTo P s d b off h = true) {v : Value} (hv : VR φ (.ptr b off) v) (r : Rel w0 φ h w) : (convert s d v).run P w = .ok v w := by
  simp only [VR] at hv
  obtain ⟨x, κ, hφ, rfl⟩ := hv
  unfold xConvTo at hx
  split at hx
  · rename_i c e sz hg
    obtain ⟨_, x', κ', ob, e1, e2, e3⟩ := r.obj _ _ hg
    rw [hφ] at e1; cases e1
    obtain ⟨vs, cs, _, _, hsh, _, hsz, _⟩ := shape_row e2 e3
    split at hx
    · rename_i t hs
      split at hx
      · rename_i hd
        simp only [Bool.and_eq_true] at hx
        obtain ⟨j, hj1, hj2⟩ := sizedT_ok hx.1
        have hlt : off < c.length := Nat.le_of_ble_eq_true hx.2
        exact Lib.run_to_unsafe w ⟨x, off, none⟩ hs hd hj1 hj2 hsh (by rw [hsz rfl]; exact hlt)
      · cases hx
    · rename_i hs
      split at hx
      · rename_i u hd
        simp only [Bool.and_eq_true] at hx
        obtain ⟨j, hj⟩ := Option.isSome_iff_exists.1 hx.1
        exact Lib.run_from_unsafe w ⟨x, off, none⟩ hs hd hj hsh (by rw [hsz rfl]; exact hx.2)
      · cases hx
    · cases hx
  · cases hx
theorem generic_noEscape : Extern.allGenericRows.lookup "internal/abi.NoEscape" = none := by kernel_rfl
theorem typed_noEscape : Extern.allTypedRows.lookup "internal/abi.NoEscape" = none := by kernel_rfl
theorem row_noEscape : Extern.allRows.lookup "internal/abi.NoEscape" = some Extern.AbiNoEscape.same := by kernel_rfl
theorem generic_makeNoZero : Extern.allGenericRows.lookup "internal/bytealg.MakeNoZero" = none := by kernel_rfl
theorem typed_makeNoZero : Extern.allTypedRows.lookup "internal/bytealg.MakeNoZero" = some Extern.BytealgMakeNoZero.makeNoZero := by kernel_rfl
theorem find_noEscape {fn : Func} (hn : fn.name = "internal/abi.NoEscape") : Extern.find fn = some Extern.AbiNoEscape.same := by
  unfold Extern.find
  simp only [hn, generic_noEscape, typed_noEscape, row_noEscape, Option.map_none]
  rfl
theorem find_makeNoZero {fn : Func} (hn : fn.name = "internal/bytealg.MakeNoZero") : Extern.find fn = some (Extern.BytealgMakeNoZero.makeNoZero fn.params fn.resultTypes) := by
  unfold Extern.find
  simp only [hn, generic_makeNoZero, typed_makeNoZero, Option.map_none, Option.map_some]
  rfl
theorem callFunc_extern {f : Nat} {fn : Func} {e : Array Value → Sem Value} (hf : P.funcs[f]? = some fn) (hb : fn.body.isNone = true) (hn : (fn.name == "runtime.NumGoroutine") = false) (h1 : Extern.findNext fn = none) (h2 : Extern.find fn = some e)
    {args : Array Value} {v : Value} {w' : World} (hr : (e args).run P w = .ok v w') : (callFunc f args).run P w = .ok (.value v) w' := by
  simp only [callFunc, Sem.run_bind, run_program, Result.andThen_ok, hf, hn, hb, Bool.false_eq_true, if_false, if_true, h1, h2]
  simp only [Sem.run_bind, run_mark, Result.andThen_ok, Sem.run_pure, hr]
theorem xExtern_ok {f : Nat} {fn : Func} (hf : P.funcs[f]? = some fn) {args : List AV} {vs : List Value} {a : AV} {h' : AH} (hx : xExtern P fn args h = some (a, h')) (hv : VRl φ args vs) (r : Rel w0 φ h w) :
    ∃ φ' w', φ.le φ' ∧ Rel w0 φ' h' w' ∧ Keep h h' ∧ ∃ v, (callFunc f vs.toArray).run P w = .ok (.value v) w' ∧ VR φ' a v := by
  unfold xExtern at hx
  cases hc : (fn.body.isNone && !(fn.name == "runtime.NumGoroutine") && (Extern.findNext fn).isNone) with
  | false => rw [hc] at hx; cases hx
  | true =>
    rw [hc, cond_true] at hx
    simp only [Bool.and_eq_true, Bool.not_eq_true', Option.isNone_iff_eq_none] at hc
    obtain ⟨⟨hb, hn⟩, hnx⟩ := hc
    cases h1 : (fn.name == "internal/abi.NoEscape") with
    | true =>
      rw [h1, cond_true] at hx
      split at hx
      · rename_i a1
        cases hx
        obtain ⟨v, vs', rfl, hv1, hv2⟩ := hv.cons_inv
        rw [hv2.nil_inv]
        exact ⟨φ, w, Phi.le_refl _, r, Keep.refl _, v, callFunc_extern hf (by simp [hb]) hn hnx (find_noEscape (by simpa using h1)) (Lib.run_noEscape w v), hv1⟩
      · cases hx
    | false =>
      rw [h1, cond_false] at hx
      cases h2 : (fn.name == "internal/bytealg.MakeNoZero") with
      | false => rw [h2] at hx; cases hx
      | true =>
        rw [h2, cond_true] at hx
        split at hx
        · rename_i n
          split at hx
          · rename_i t ht
            split at hx
            · rename_i e he
              cases hq : (Nat.ble n 281474976710656 && h.roomy) with
              | false => rw [hq] at hx; cases hx
              | true =>
                rw [hq, cond_true] at hx
                cases hx
                simp only [Bool.and_eq_true] at hq
                obtain ⟨v, vs', rfl, hv1, hv2⟩ := hv.cons_inv
                rw [hv2.nil_inv]
                simp only [VR] at hv1
                subst hv1
                obtain ⟨cs, k1, k2, _⟩ := Lib.run_makeNoZero (P := P) w fn.params t e he n (Nat.le_of_ble_eq_true hq.1)
                have hrt : fn.resultTypes = #[t] := by apply Array.ext'; simpa using ht
                refine ⟨ext φ h.nx (w.heap.size, cs.size), w.drew.drew.alloc (.cells cs e), ext_le (r.dom _ (Nat.le_refl _)), ?_, AH.add_keep hq.2, .slice (some ⟨w.heap.size, 0, none⟩) n cs.size, ?_, ?_⟩
                · have := (r.drew1.drew1).alloc hq.2 (o := .row [] e 1 true) (ob := .cells cs e) (κ := cs.size) ⟨[], cs, rfl, VRl.nil, .inl ⟨rfl, ⟨cs.toList, by simp⟩, by simp⟩⟩
                  exact this
                · exact callFunc_extern hf (by simp [hb]) hn hnx (find_makeNoZero (by simpa using h2)) (by rw [hrt]; exact k1)
                · simp only [VR]; exact ⟨w.heap.size, cs.size, ext_same _ _ _, .inl ⟨trivial, by omega, by simp⟩⟩
            · cases hx
          · cases hx
        · cases hx
theorem Rel.touch (r : Rel w0 φ h w) {w' : World} {x : Nat} (hx : w0.w.heap.size ≤ x) (hfz : ∀ p ∈ w0.fz, p.1 ≠ x) (hno : ∀ b o κ, h.get b = some o → φ b ≠ some (x, κ))
    (hos : w'.os = w.os) (htape : w'.tape = w.tape) (hout : w'.output = w.output) (hsize : w'.heap.size = w.heap.size) (hother : ∀ j, j ≠ x → w'.heap[j]? = w.heap[j]?) : Rel w0 φ h w' := by
  refine ⟨r.below.trans ⟨hos, htape, hout, by rw [hsize]; exact Nat.le_refl _, fun j hj => hother j (by omega)⟩, r.dom, fun b y κ e => by rw [hsize]; exact r.ge b y κ e, r.inj, fun b o e => ?_, fun p hp => (hother _ (hfz p hp)).trans (r.fro p hp), r.gf⟩
  obtain ⟨hl, y, κ, ob, e1, e2, e3⟩ := r.obj b o e
  refine ⟨hl, y, κ, ob, e1, ?_, e3⟩
  rw [hother y (fun hy => hno b o κ e (by rw [← hy]; exact e1))]
  exact e2
theorem xString_ok {pt it ty : Nat} {p : AV} {n : Nat} {a : AV} {h' : AH} (hx : xString P pt p n h = some (a, h')) {v : Value} (hv : VR φ p v) (r : Rel w0 φ h w) :
    ∃ w', Rel w0 φ h' w' ∧ Keep h h' ∧ ∃ u, (Builtin.unsafeString_ #[pt, it] ty #[v, .int .i64 n]).run P w = .ok u w' ∧ VR φ a u := by
  unfold xString at hx
  split at hx
  · have hn : ∀ q, v = .pointer q → a = .str [] → h' = h → ∃ w', Rel w0 φ h' w' ∧ Keep h h' ∧ ∃ u, (Builtin.unsafeString_ #[pt, it] ty #[v, .int .i64 (0 : Nat)]).run P w = .ok u w' ∧ VR φ a u := by
      rintro q rfl rfl rfl
      exact ⟨w, r, Keep.refl _, _, Lib.run_unsafeString_none w pt it ty q, by simp only [VR]; rfl⟩
    split at hx
    · cases hx
      simp only [VR] at hv
      exact hn _ hv rfl rfl
    · cases hx
      simp only [VR] at hv
      obtain ⟨x, κ, _, hv⟩ := hv
      exact hn _ hv rfl rfl
    · cases hx
  · rename_i hn0
    split at hx
    · rename_i b
      split at hx
      · rename_i c e sz op hg
        split at hx
        · rename_i e' hp
          cases hc : (Nat.beq e' e && Nat.beq (P.cellsOf e) 1 && Nat.ble n c.length && Nat.ble n 9223372036854775807 && h.mayPut b) with
          | false => rw [hc] at hx; cases hx
          | true =>
            rw [hc, cond_true] at hx
            simp only [Bool.and_eq_true] at hc
            obtain ⟨⟨⟨⟨c1, c2⟩, c3⟩, c4⟩, c5⟩ := hc
            split at hx
            · rename_i l hl
              cases hx
              obtain rfl := Nat.eq_of_beq_eq_true c1
              simp only [VR] at hv
              obtain ⟨x, κ, hφ, rfl⟩ := hv
              obtain ⟨_, x', κ', ob, e1, e2, e3⟩ := r.obj _ _ hg
              rw [hφ] at e1; cases e1
              obtain ⟨vs, cs, rfl, hvs, hsh, hle, _, hget⟩ := shape_row e2 e3
              obtain ⟨i1, i2⟩ := bytesOf_ok hl hvs
              have c3' := Nat.le_of_ble_eq_true c3
              have c4' := Nat.le_of_ble_eq_true c4
              have hl0 : l ≠ [] := by
                intro h0
                rw [h0] at i1
                exact hn0 (by simpa using i1.symm)
              have hrun := Lib.run_unsafeString_row (P := P) w pt it ty e' hp (Nat.eq_of_beq_eq_true c2) x cs.size hsh l hl0 (by omega) (by omega) (fun j y hj => by
                have := hget j _ (i2 j y hj)
                have hadd : (⟨x, 0, none⟩ : Addr).add j = ⟨x, j, none⟩ := by
                  by_cases h0 : j = 0
                  · subst h0; simp [Addr.add]
                  · simp [Addr.add, h0]
                rw [hadd, Lib.cell_of_heap e2]; exact this)
              rw [i1] at hrun
              refine ⟨w.freeze ⟨x, 0, none⟩ n, ?_, AH.kill_keep c5, _, hrun, by simp only [VR]⟩
              have hx := r.ge _ _ _ hφ
              have hb := Lib.below_freeze (Below.refl x w) (p := ⟨x, 0, none⟩) (Nat.le_refl _) n
              refine (r.kill c5).touch hx.1 (r.gf _ _ _ hφ) ?_ hb.os hb.tape hb.output ?_ ?_
              · intro b' o' κ' hb' hφ'
                have h3 := AH.kill_get c5 hb'
                exact h3.1 (r.inj _ _ _ _ _ _ _ h3.2 hg hφ' hφ)
              · unfold World.freeze; split <;> simp
              · intro j hj
                unfold World.freeze; split
                · rfl
                · simp only [Array.getElem?_modify]
                  rw [if_neg (fun h4 => hj h4.symm)]
            · cases hx
        · cases hx
      · cases hx
    · cases hx
theorem run_eql_ptr_same {tp te : TypeId} {j : TypeInfo} (a : Addr) (hp : P.underlying tp = some (.pointer te)) (hte : P.info? te = some j) :
    (binOp .eql tp (.pointer (some a)) (.pointer (some a))).run P w = .ok (.bool true) w := by
  have h : ∀ d : Nat, (Op.equalIn (d + 1) tp (.pointer (some a)) (.pointer (some a))).run P w = .ok true w := fun d => by
    simp [Op.equalIn, run_underlying hp, sizeOf, typeInfo, hte, run_sameAddr_same]
  simp only [binOp]
  simp [Op.equal, Op.maxDepth, h 9999]
theorem extraA_ok (hev : EVR φ ev ρ) {o : Oper} {a : AV} {h' : AH} (hm : extraA P ev o h = some (a, h')) (r : Rel w0 φ h w) : MutOK P w0 φ ρ h w o a h' := by
  obtain ⟨dst, op, type, pos, after, guard⟩ := o
  cases op <;> simp only [extraA, reduceCtorEq] at hm
  case convert s d x =>
    split at hm
    · rename_i b off hx
      cases hc : xConvTo P s d b off h with
      | false => rw [hc] at hm; cases hm
      | true =>
        rw [hc, cond_true] at hm
        cases hm
        have hv := hev _ _ hx
        have := xConv_ok hc hv r
        exact ⟨φ, w, Phi.le_refl _, r, Keep.refl _, .inl ⟨_, by simp only [execOp]; exact run_v' this, hv⟩⟩
    · cases hm
  case binOp op t x y pos' =>
    unfold xBin at hm
    split at hm
    · rename_i b off hx
      split at hm
      · rename_i b' off' hy
        cases hc : xSame P t b off b' off' with
        | false => rw [hc] at hm; cases hm
        | true =>
          rw [hc, cond_true] at hm
          unfold xSame at hc
          simp only [Bool.and_eq_true] at hc
          obtain ⟨⟨c1, c2⟩, c3⟩ := hc
          obtain rfl := Nat.eq_of_beq_eq_true c1
          obtain rfl := Nat.eq_of_beq_eq_true c2
          split at c3
          · rename_i te ht
            obtain ⟨j, hj⟩ := Option.isSome_iff_exists.1 c3
            have hv := hev _ _ hx
            have hu := hev _ _ hy
            simp only [VR] at hv hu
            obtain ⟨z, κ, e1, hv⟩ := hv
            obtain ⟨z', κ', e2, hu⟩ := hu
            rw [e1] at e2; cases e2
            split at hm
            · cases hm
              refine ⟨φ, w, Phi.le_refl _, r, Keep.refl _, .inl ⟨_, ?_, .ofBool true⟩⟩
              simp only [execOp, hv, hu]
              exact run_v' (run_eql_ptr_same ⟨z, off, none⟩ ht hj)
            · cases hm
              refine ⟨φ, w, Phi.le_refl _, r, Keep.refl _, .inl ⟨_, ?_, .ofBool false⟩⟩
              simp only [execOp, hv, hu]
              exact run_v' (Lib.run_neq_ptr_same w ⟨z, off, none⟩ ht hj)
            · cases hm
          · cases c3
      · cases hm
    · cases hm
  case call c =>
    obtain ⟨callee, args, argTypes⟩ := c
    unfold xCall at hm
    split at hm
    · rename_i x hcal
      simp only at hcal
      subst hcal
      split at hm
      · rename_i f hx
        split at hm
        · rename_i l hl
          split at hm
          · rename_i fn hf
            have hv := hev _ _ hx
            simp only [VR] at hv
            obtain ⟨vf, vc, h1, h2, hv⟩ := hv
            rw [h1.nil_inv, h2.nil_inv] at hv
            have h3 := evs_ok hev hl
            obtain ⟨φ', w', k1, k2, k3, v, k4, k5⟩ := xExtern_ok hf hm h3 r
            refine ⟨φ', w', k1, k2, k3, .inl ⟨v, ?_, k5⟩⟩
            have e2 : ((#[] : Array Value) ++ args.map ρ ++ #[]) = (args.toList.map ρ).toArray := by apply Array.ext'; simp
            simp only [execOp, resolve, hv, Deferred.ofValue, Sem.run_bind, Sem.run_pure, Result.andThen_ok, invoke, e2]
            exact k4
          · cases hm
        · cases hm
      · cases hm
    · rename_i hcal
      simp only at hcal
      subst hcal
      split at hm
      · rename_i x hxs
        have h1 : args = #[x] := by apply Array.ext'; simpa using hxs
        subst h1
        split at hm
        · rename_i hx
          cases hm
          have hv := hev _ _ hx
          simp only [VR] at hv
          refine ⟨φ, w, Phi.le_refl _, r, Keep.refl _, .inl ⟨.pointer none, ?_, by simp only [VR]⟩⟩
          simp only [execOp, resolve, List.map_toArray, List.map_cons, List.map_nil, hv]
          exact run_v' (w' := w) (v := .pointer none) rfl
        · rename_i b off len cap op hx
          cases hc : cond op (!Nat.beq len 0) (!Nat.beq cap 0) with
          | false => rw [hc] at hm; cases hm
          | true =>
            rw [hc, cond_true] at hm
            cases hm
            have hv := hev _ _ hx
            simp only [VR] at hv
            obtain ⟨y, κ, hφ, hv⟩ := hv
            have hcap : ∃ n k, ρ x = .slice (some ⟨y, off, none⟩) n k ∧ k ≠ 0 := by
              rcases hv with ⟨rfl, g1, g2⟩ | ⟨rfl, g2⟩
              · refine ⟨_, _, g2, ?_⟩
                intro h0
                have : len = 0 := by omega
                rw [this] at hc; cases hc
              · refine ⟨_, _, g2, ?_⟩
                intro h0
                rw [h0] at hc; cases hc
            obtain ⟨n, k, g1, g2⟩ := hcap
            refine ⟨φ, w, Phi.le_refl _, r, Keep.refl _, .inl ⟨.pointer (some ⟨y, off, none⟩), ?_, by simp only [VR]; exact ⟨y, κ, hφ, rfl⟩⟩⟩
            simp only [execOp, resolve, List.map_toArray, List.map_cons, List.map_nil, g1]
            exact run_v' (Lib.run_unsafeSliceData_row w _ _ ⟨y, off, none⟩ n k g2)
        · cases hm
      · cases hm
    · rename_i hcal
      simp only at hcal
      subst hcal
      split at hm
      · rename_i x y hxs
        split at hm
        · rename_i pt it hts
          have h1 : args = #[x, y] := by apply Array.ext'; simpa using hxs
          have h2 : argTypes = #[pt, it] := by apply Array.ext'; simpa using hts
          subst h1; subst h2
          split at hm
          · rename_i p hp
            split at hm
            · rename_i n hn
              have hv := hev _ _ hn
              simp only [VR] at hv
              obtain ⟨w', k1, k2, u, k3, k4⟩ := xString_ok (it := it) (ty := type) hm (hev _ _ hp) r
              refine ⟨φ, w', Phi.le_refl _, k1, k2, .inl ⟨u, ?_, k4⟩⟩
              simp only [execOp, resolve, List.map_toArray, List.map_cons, List.map_nil, hv]
              exact run_v' k3
            · cases hm
          · cases hm
        · cases hm
      · cases hm
    · cases hm
theorem opValX_ok {call : Nat → List AV → AH → Rs (CR × AH)} (hcall : CallSound P w0 call) {act : Act} (hev : EVR φ ev act.eval) {o : Oper} {r : CR} {h' : AH} (ho : opValX P call ev o h = .ok (r, h')) (rl : Rel w0 φ h w)
    {K : Act → World → Prop} {Q : Exit → Act → World → Prop} (hK : ∀ a φ' v w', r = .ret a → φ.le φ' → VR φ' a v → Rel w0 φ' h' w' → Keep h h' → K (act.put o.dst v) w')
    (hP : ∀ a φ' v w', r = .pan a → φ.le φ' → VR φ' a v → Rel w0 φ' h' w' → Keep h h' → Q (.panic [{ v, recovered := false }]) act w') : o.wp P act w K Q := by
  unfold opValX at ho
  split at ho
  · rename_i p hp
    cases ho
    exact opVal_ok hcall hev hp rl hK hP
  · split at ho
    · rename_i a h1 ha
      cases ho
      unfold Oper.wp
      obtain ⟨φ', w', k1, k2, k3, ⟨v, k4, k5⟩ | ⟨k4, k5⟩⟩ := extraA_ok (P := P) hev ha rl
      · rw [k4, Oper.upon_value]
        exact hK a φ' v w' rfl k1 k5 k2 k3
      · rw [k4, Oper.upon_skip]
        exact hK a φ' undef w' rfl k1 (by rw [k5]; simp only [VR]; exact ⟨[], .nil, rfl⟩) k2 k3
    · cases ho
end
end Ev
end Go.Proofs.YtaegacblpbbndaaDoor
end
