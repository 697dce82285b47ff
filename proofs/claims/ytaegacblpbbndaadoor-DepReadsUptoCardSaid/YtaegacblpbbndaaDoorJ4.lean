/- The texts Ev5 of the proof, joined. Each says at its theorems what it proves. -/
import Derived.Test.YtaegacblpbbndaaDoorJ3
set_option linter.unusedSimpArgs false
set_option linter.unusedVariables false
section
namespace Go.Proofs.YtaegacblpbbndaaDoor
open Go Go.RowKit
set_option linter.unusedSimpArgs false
set_option linter.unusedVariables false
namespace Ev
section
variable (P : Program) (ev : Operand → Option AV)
noncomputable def evs : List Operand → Option (List AV)
  | [] => some []
  | x :: l => match ev x with
    | some a => match evs l with
      | some r => some (a :: r)
      | none => none
    | none => none
noncomputable def evp : List (Nat × Operand) → Option (List (Nat × AV))
  | [] => some []
  | (i, x) :: l => match ev x with
    | some a => match evp l with
      | some r => some ((i, a) :: r)
      | none => none
    | none => none
noncomputable def placesA : List Field → Option (List (Nat × Nat))
  | [] => some []
  | f :: l => match tsz P f.type with
    | some n => match placesA l with
      | some r => some ((f.offset, n) :: r)
      | none => none
    | none => none
noncomputable def buildA (t : Nat) (ps : List (Nat × AV)) : Option AV := match zeroA P t with
  | some (.agg z) => match P.underlying t with
    | some (.struct fields) => match placesA P fields.toList with
      | some pl => match fillA (fun i => pl[i]?) z ps with
        | some r => some (.agg r)
        | none => none
      | none => none
    | some (.array _ e) => match tsz P e with
      | some n => match fillA (fun i => some (i * n, n)) z ps with
        | some r => some (.agg r)
        | none => none
      | none => none
    | _ => none
  | _ => none
noncomputable def nilIfaces (op : BinOp) (t : Nat) : Option AV := match P.underlying t with
  | some (.interface _) => match op with
    | .eql => some (.bool true)
    | .neq => some (.bool false)
    | _ => none
  | _ => none
noncomputable def ob (x : Option Operand) : Option (Option AV) := match x with
  | none => none
  | some x => some (ev x)
noncomputable def pPick (c a b : Operand) : Option AV := match ev c with
    | some (.bool t) => bif t then ev a else ev b
    | _ => none
noncomputable def pBin (o : Oper) (op : BinOp) (t : Nat) (x y : Operand) : Option AV := match ev x with
    | some a => match ev y with
      | some b => match toV a with
        | some _ => scal P ev o
        | none => match a with
          | .agg _ => scalS P ev o
          | .nili => match b with
            | .nili => bif Region.isConst x || Region.isConst y then nilIfaces P op t else none
            | _ => binA P op t a b
          | _ => binA P op t a b
      | none => none
    | none => none
noncomputable def pConv (o : Oper) (s d : Nat) (x : Operand) : Option AV := match ev x with
    | some (.str l) => match P.underlying s with
      | some .string => match P.underlying d with
        | some .string => some (.str l)
        | _ => none
      | _ => none
    | some _ => scal P ev o
    | none => none
noncomputable def pIface (t : Nat) (x : Operand) : Option AV := match P.underlying t with
    | some (.interface _) => none
    | some _ => match ev x with
      | some a => some (.ifc t a)
      | none => none
    | none => none
noncomputable def pFunc (fn : Fn) (first cap : Array Operand) : Option AV := match fn with
    | .func f => match evs ev first.toList with
      | some l => match evs ev cap.toList with
        | some m => some (.fn f l m)
        | none => none
      | none => none
    | _ => none
noncomputable def pExtract (x : Operand) (i : Nat) : Option AV := match ev x with
    | some (.tup l) => l[i]?
    | _ => none
noncomputable def pNil (x : Operand) : Option AV := match ev x with
    | some (.ptr b off) => some (.ptr b off)
    | _ => none
noncomputable def pFieldAddr (s : Nat) (x : Operand) (f : Nat) : Option AV := match ev x with
    | some (.ptr b off) => match P.underlying s with
      | some (.struct fields) => match fields.toList[f]? with
        | some fd => match tsz P fd.type with
          | some (_ + 1) => some (.ptr b (off + fd.offset))
          | _ => none
        | none => none
      | _ => none
    | _ => none
noncomputable def pField (s : Nat) (x : Operand) (f : Nat) : Option AV := match ev x with
    | some (.agg l) => match P.underlying s with
      | some (.struct fields) => match fields.toList[f]? with
        | some fd => partA P fd.type l fd.offset
        | none => none
      | _ => none
    | _ => none
noncomputable def pIndexAddr (t : Nat) (x i : Operand) : Option AV := match ev x with
    | some a => match ev i with
      | some ia => match natOf ia with
        | some n => match P.underlying t with
          | some (.slice e) => match tsz P e with
            | some size => match a with
              | .sl b off len _ _ => bif Nat.blt n len then some (.ptr b (off + n * size)) else none
              | _ => none
            | none => none
          | some (.array len e) => match tsz P e with
            | some size => match a with
              | .ptr b off => bif Nat.blt n len then some (.ptr b (off + n * size)) else none
              | _ => none
            | none => none
          | _ => none
        | none => none
      | none => none
    | none => none
noncomputable def pIndex (t : Nat) (x i : Operand) : Option AV := match ev x with
    | some a => match ev i with
      | some ia => match natOf ia with
        | some n => match P.underlying t with
          | some .string => match a with
            | .str l => match l[n]? with
              | some u => some (.int .u8 (.ofNat u.toNat))
              | none => none
            | _ => none
          | some (.array len e) => match a with
            | .agg l => match tsz P e with
              | some size => bif Nat.blt n len then partA P e l (n * size) else none
              | none => none
            | _ => none
          | _ => none
        | none => none
      | none => none
    | none => none
noncomputable def pSlice (t : Nat) (x : Operand) (lo hi mx : Option Operand) : Option AV := match ev x with
    | some a => sliceA P t a (ob ev lo) (ob ev hi) (ob ev mx)
    | none => none
noncomputable def pBuild (t : Nat) (parts : Array (Nat × Operand)) : Option AV := match evp ev parts.toList with
    | some ps => buildA P t ps
    | none => none
noncomputable def pAssert (x : Operand) (t : Nat) (ok : Bool) : Option AV := match ev x with
    | some (.ifc u a) => match P.underlying t with
      | some (.interface _) => none
      | some _ => bif Nat.beq u t then some (bif ok then .tup [a, .bool true] else a) else bif ok then (match zeroA P t with | some z => some (.tup [z, .bool false]) | none => none) else none
      | none => none
    | some .nili => match P.underlying t with
      | some (.interface _) => none
      | some _ => bif ok then (match zeroA P t with | some z => some (.tup [z, .bool false]) | none => none) else none
      | none => none
    | _ => none
noncomputable def pCall (o : Oper) (c : Call) : Option AV := match c.callee with
    | .builtin .len => match c.args.toList with
      | [x] => match c.argTypes.toList with
        | [t] => match ev x with
          | some (.str l) => match P.underlying t with
            | some .string => some (.int .i64 (.ofNat l.length))
            | _ => none
          | some (.sl _ _ len _ _) => match P.underlying t with
            | some (.slice _) => some (.int .i64 (.ofNat len))
            | _ => none
          | some .nils => match P.underlying t with
            | some (.slice _) => some (.int .i64 (.ofNat 0))
            | _ => none
          | some .sle => match P.underlying t with
            | some (.slice _) => some (.int .i64 (.ofNat 0))
            | _ => none
          | some .nilm => match P.underlying t with
            | some (.map _ _) => some (.int .i64 (.ofNat 0))
            | _ => none
          | _ => none
        | _ => none
      | _ => none
    | .builtin .cap => match c.args.toList with
      | [x] => match c.argTypes.toList with
        | [t] => match ev x with
          | some (.sl _ _ _ cap false) => match P.underlying t with
            | some (.slice _) => some (.int .i64 (.ofNat cap))
            | _ => none
          | some .nils => match P.underlying t with
            | some (.slice _) => some (.int .i64 (.ofNat 0))
            | _ => none
          | _ => none
        | _ => none
      | _ => none
    | .builtin .min => scal P ev o
    | .builtin .max => scal P ev o
    | .builtin .real => scal P ev o
    | .builtin .imag => scal P ev o
    | .builtin .complex => scal P ev o
    | .value _ => externA P ev o
    | _ => none
noncomputable def pureA (o : Oper) : Option AV := match o.op with
  | .move x => ev x
  | .assign x => ev x
  | .pick c a b => pPick ev c a b
  | .binOp op t x y _ => pBin P ev o op t x y
  | .unOp _ _ _ => scal P ev o
  | .convert s d x => pConv P ev o s d x
  | .makeInterface t x => pIface P ev t x
  | .makeFunc fn first cap => pFunc ev fn first cap
  | .extract x i => pExtract ev x i
  | .nilCheck x => pNil ev x
  | .fieldAddr s x f => pFieldAddr P ev s x f
  | .field s x f => pField P ev s x f
  | .indexAddr t x i => pIndexAddr P ev t x i
  | .index t x i => pIndex P ev t x i
  | .slice t x lo hi mx => pSlice P ev t x lo hi mx
  | .build t parts => pBuild P ev t parts
  | .typeAssert x _ t ok => pAssert P ev x t ok
  | .call c => pCall P ev o c
  | _ => none
end
section
variable {P : Program} {ev : Operand → Option AV} {φ : Phi} {ρ : Operand → Value}
theorem evs_ok (hev : EVR φ ev ρ) : ∀ {l : List Operand} {r : List AV}, evs ev l = some r → VRl φ r (l.map ρ)
  | [], _, h => by cases h; exact .nil
  | x :: l, _, h => by
    unfold evs at h
    split at h
    · rename_i a ha
      split at h
      · rename_i r hr; cases h; exact .cons (hev _ _ ha) (evs_ok hev hr)
      · cases h
    · cases h
theorem evp_ok (hev : EVR φ ev ρ) : ∀ {l : List (Nat × Operand)} {r : List (Nat × AV)}, evp ev l = some r → NR φ r (l.map fun (i, x) => (i, ρ x))
  | [], _, h => by cases h; simp [NR]
  | (i, x) :: l, _, h => by
    unfold evp at h
    split at h
    · rename_i a ha
      split at h
      · rename_i r hr; cases h; simp only [NR, List.map_cons]; exact ⟨_, _, rfl, hev _ _ ha, evp_ok hev hr⟩
      · cases h
    · cases h
theorem placesA_run (w : World) : ∀ {l : List Field} {r : List (Nat × Nat)}, placesA P l = some r → (l.mapM (m := Sem) fun f => do pure (f.offset, ← sizeOf f.type)).run P w = .ok r w
  | [], _, h => by cases h; simp [go_sem]
  | f :: l, _, h => by
    unfold placesA at h
    split at h
    · rename_i n hn
      split at h
      · rename_i r hr
        cases h
        have := placesA_run w hr
        simp only [List.mapM_cons, Sem.run_bind, Sem.run_pure, tsz_run hn, Result.andThen_ok, this]
      · cases h
    · cases h
theorem buildA_ok {t : Nat} {ps : List (Nat × AV)} {qs : Array (Nat × Value)} {a : AV} (h : buildA P t ps = some a) (hp : NR φ ps qs.toList) : ∃ v, (∀ w, (Instr.build t qs).run P w = .ok v w) ∧ VR φ a v := by
  unfold buildA at h
  split at h
  · rename_i z hz
    obtain ⟨zv, hzv, hzr⟩ := zeroA_run (φ := φ) hz
    simp only [VR] at hzr
    obtain ⟨zs, hzs, rfl⟩ := hzr
    split at h
    · rename_i fields hu
      split at h
      · rename_i pl hpl
        split at h
        · rename_i r hr
          cases h
          obtain ⟨rs, h1, h2⟩ := fillA_run _ ps qs.toList z zs.toArray r hr hp (by simpa using hzs)
          refine ⟨.agg rs, fun w => ?_, by simp only [VR]; exact ⟨rs.toList, h2, by simp⟩⟩
          have hm : (fields.mapM (m := Sem) fun f => do pure (f.offset, ← sizeOf f.type)).run P w = .ok pl.toArray w := by
            rw [Array.mapM_eq_mapM_toList]
            simp only [Sem.run_map, placesA_run w hpl, Result.andThen_ok]
          have hf : (fun i : Nat => pl.toArray[i]?) = fun i => pl[i]? := by funext i; simp
          simp only [Instr.build, Sem.run_bind, hzv, Result.andThen_ok, run_underlying hu, hm, Value.cells, hf, h1, Sem.run_pure]
        · cases h
      · cases h
    · rename_i n e hu
      split at h
      · rename_i size hs
        split at h
        · rename_i r hr
          cases h
          obtain ⟨rs, h1, h2⟩ := fillA_run _ ps qs.toList z zs.toArray r hr hp (by simpa using hzs)
          refine ⟨.agg rs, fun w => ?_, by simp only [VR]; exact ⟨rs.toList, h2, by simp⟩⟩
          simp only [Instr.build, Sem.run_bind, hzv, Result.andThen_ok, run_underlying hu, tsz_run hs, Value.cells, h1, Sem.run_pure]
        · cases h
      · cases h
    · cases h
  · cases h
theorem ob_ok (hev : EVR φ ev ρ) (x : Option Operand) : BR φ (ob ev x) (x.map ρ) := by
  cases x with
  | none => simp [ob, BR]
  | some x =>
    unfold ob
    cases h : ev x with
    | none => simp [h, BR]
    | some a => simp only [h, BR, Option.map_some]; exact ⟨_, rfl, hev _ _ h⟩
theorem run_v {s : Sem Value} {w : World} {v : Value} (h : s.run P w = .ok v w) : ((do pure (.value (← s)) : Sem Next)).run P w = .ok (.value v) w := by
  simp only [Sem.run_bind, h, Result.andThen_ok, Sem.run_pure]
theorem eqGuard_not {op : BinOp} {t : Nat} {x y : Operand} {a b : Value} (w : World) (h : ¬ (a = .nilIface ∧ b = .nilIface)) (h' : ∀ c d, ¬ (a = .agg c ∧ b = .agg d)) : (eqGuard op t x y a b).run P w = .ok () w := by
  unfold eqGuard
  by_cases ho : (!(match op with | .eql | .neq => true | _ => false)) = true
  · cases op <;> first | (simp at ho; done) | rfl
  · cases op <;> first | (simp at ho; done) | skip
    all_goals
      cases a <;> cases b <;> first | rfl | (exact absurd ⟨rfl, rfl⟩ h) | (exact absurd ⟨rfl, rfl⟩ (h' _ _))
theorem binA_ok {op : BinOp} {t : Nat} {a b r : AV} {x y : Value} (h : binA P op t a b = some r) (ht : toV a = none) (hx : VR φ a x) (hy : VR φ b y) (xo yo : Operand) :
    ∃ v, (∀ w, ((do eqGuard op t xo yo x y; binOp op t x y) : Sem Value).run P w = .ok v w) ∧ VR φ r v := by
  unfold binA at h
  split at h
  case h_8 =>
    have nilcase : ∀ q, binA.nilEq P t a b = some q → ¬ (x = .nilIface ∧ y = .nilIface) ∧ (∀ c d, ¬ (x = .agg c ∧ y = .agg d)) ∧ (∀ r : Bool, (∀ w, (Op.equal t x y).run P w = .ok r w) →
        (∀ w, (binOp .eql t x y).run P w = .ok (.bool r) w) ∧ (∀ w, (binOp .neq t x y).run P w = .ok (.bool (!r)) w)) := by
      intro q hq
      unfold binA.nilEq at hq
      split at hq <;> first | cases hq | skip
      all_goals
        simp only [VR] at hx hy
        first
          | (obtain ⟨x1, κ1, e1, rfl⟩ := hx; subst hy; refine ⟨by simp, by simp, fun r hr => ⟨fun w => ?_, fun w => ?_⟩⟩ <;> simp [binOp, hr, go_sem]; done)
          | (obtain ⟨x1, κ1, e1, rfl⟩ := hy; subst hx; refine ⟨by simp, by simp, fun r hr => ⟨fun w => ?_, fun w => ?_⟩⟩ <;> simp [binOp, hr, go_sem]; done)
          | (obtain ⟨x1, κ1, e1, ⟨_, _, rfl⟩ | ⟨_, rfl⟩⟩ := hx <;> subst hy <;> refine ⟨by simp, by simp, fun r hr => ⟨fun w => ?_, fun w => ?_⟩⟩ <;> simp [binOp, hr, go_sem]; done)
          | (obtain ⟨x1, κ1, e1, ⟨_, _, rfl⟩ | ⟨_, rfl⟩⟩ := hy <;> subst hx <;> refine ⟨by simp, by simp, fun r hr => ⟨fun w => ?_, fun w => ?_⟩⟩ <;> simp [binOp, hr, go_sem]; done)
          | (obtain ⟨x1, e1, rfl⟩ := hx; subst hy; refine ⟨by simp, by simp, fun r hr => ⟨fun w => ?_, fun w => ?_⟩⟩ <;> simp [binOp, hr, go_sem]; done)
          | (obtain ⟨x1, e1, rfl⟩ := hy; subst hx; refine ⟨by simp, by simp, fun r hr => ⟨fun w => ?_, fun w => ?_⟩⟩ <;> simp [binOp, hr, go_sem]; done)
          | (obtain ⟨x1, x2, rfl⟩ := hx; subst hy; refine ⟨by simp, by simp, fun r hr => ⟨fun w => ?_, fun w => ?_⟩⟩ <;> simp [binOp, hr, go_sem]; done)
          | (obtain ⟨x1, x2, rfl⟩ := hy; subst hx; refine ⟨by simp, by simp, fun r hr => ⟨fun w => ?_, fun w => ?_⟩⟩ <;> simp [binOp, hr, go_sem]; done)
          | (obtain ⟨x1, x2, e1, e2, rfl⟩ := hx; subst hy; refine ⟨by simp, by simp, fun r hr => ⟨fun w => ?_, fun w => ?_⟩⟩ <;> simp [binOp, hr, go_sem]; done)
          | (subst hx; subst hy; refine ⟨by simp, by simp, fun r hr => ⟨fun w => ?_, fun w => ?_⟩⟩ <;> simp [binOp, hr, go_sem]; done)
    split at h
    · obtain ⟨g1, g2, g3⟩ := nilcase _ h
      obtain ⟨q, rfl, hq⟩ := nilEq_ok h hx hy
      exact ⟨.bool q, fun w => by simp only [Sem.run_bind, eqGuard_not w g1 g2, Result.andThen_ok, (g3 q hq).1 w], by simp [VR]⟩
    · split at h
      · rename_i r' hr'
        cases h
        obtain ⟨g1, g2, g3⟩ := nilcase _ hr'
        obtain ⟨q, hq0, hq⟩ := nilEq_ok hr' hx hy
        cases hq0
        exact ⟨.bool (!r'), fun w => by simp only [Sem.run_bind, eqGuard_not w g1 g2, Result.andThen_ok, (g3 r' hq).2 w], by simp [VR]⟩
      · cases h
    · cases h
  all_goals
    simp only [VR] at hx hy
    subst hx; subst hy
  case h_7 l m =>
    cases hb : Nat.ble (l.length + m.length) 1000000 with
    | false => rw [hb] at h; cases h
    | true =>
      rw [hb, cond_true] at h; cases h
      refine ⟨.string ⟨(l ++ m).toArray⟩, fun w => ?_, VR.ofStr _⟩
      have h1 : ¬ (((l.length + m.length : Nat) : Int) > IntKind.i64.max) := by
        have : IntKind.i64.max = 9223372036854775807 := by decide
        have := ble_of hb
        omega
      have h2 : (⟨l.toArray⟩ : ByteArray) ++ ⟨m.toArray⟩ = ⟨(l ++ m).toArray⟩ := by
        apply ByteArray.ext; simp [ByteArray.data_append]
      have hg := eqGuard_not (P := P) (op := .add) (t := t) (x := xo) (y := yo) (a := .string ⟨l.toArray⟩) (b := .string ⟨m.toArray⟩) w (by simp) (by simp)
      simp only [Sem.run_bind, hg, Result.andThen_ok, binOp, Op.stringOp, S_size, h2]
      rw [if_neg h1]; rfl
  all_goals
    rename_i p q
    cases h
    refine ⟨_, fun w => ?_, VR.ofBool _⟩
    have hg := fun o => eqGuard_not (P := P) (op := o) (t := t) (x := xo) (y := yo) (a := .string ⟨p.toArray⟩) (b := .string ⟨q.toArray⟩) w (by simp) (by simp)
    have he : (p == q) = strEq p q := by rw [strEq_iff, Bool.eq_iff_iff]; simp
    simp only [Sem.run_bind, hg, Result.andThen_ok, binOp, Op.stringOp, S_toList, he, Sem.run_pure]
end
end Ev
end Go.Proofs.YtaegacblpbbndaaDoor
end
