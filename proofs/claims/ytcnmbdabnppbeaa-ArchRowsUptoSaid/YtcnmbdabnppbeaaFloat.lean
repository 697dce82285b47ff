/- Small whole numbers as floats. No condition. -/
import Derived.Test.YtcnmbdabnppbeaaMap
namespace Go.Proofs.Ytcnmbdabnppbeaa
open Go Go.RowKit

def fbTab : List Nat := [0, 4607182418800017408, 4611686018427387904, 4613937818241073152, 4616189618054758400, 4617315517961601024, 4618441417868443648, 4619567317775286272, 4620693217682128896, 4621256167635550208, 4621819117588971520, 4622382067542392832, 4622945017495814144, 4623507967449235456, 4624070917402656768, 4624633867356078080, 4625196817309499392, 4625478292286210048, 4625759767262920704, 4626041242239631360, 4626322717216342016, 4626604192193052672, 4626885667169763328, 4627167142146473984, 4627448617123184640, 4627730092099895296, 4628011567076605952, 4628293042053316608, 4628574517030027264, 4628855992006737920, 4629137466983448576, 4629418941960159232, 4629700416936869888, 4629841154425225216, 4629981891913580544, 4630122629401935872, 4630263366890291200, 4630404104378646528, 4630544841867001856, 4630685579355357184, 4630826316843712512, 4630967054332067840, 4631107791820423168, 4631248529308778496, 4631389266797133824, 4631530004285489152, 4631670741773844480, 4631811479262199808]
def fb (n : Nat) : Nat := fbTab.getD n 0
theorem fb_add_tab : ((List.range 44).all fun a => (List.range 2).all fun b => decide (FloatKind.f64.format.add (fb a) (fb b) = some (fb (a + b)))) = true := by kernel_rfl
theorem fb_add {a b : Nat} (ha : a < 44) (hb : b < 2) : FloatKind.f64.format.add (fb a) (fb b) = some (fb (a + b)) := by
  have h := fb_add_tab
  rw [List.all_eq_true] at h
  have h1 := h a (List.mem_range.2 ha)
  rw [List.all_eq_true] at h1
  exact of_decide_eq_true (h1 b (List.mem_range.2 hb))
theorem fb_gt_tab : ((List.range 44).all fun a => (FloatKind.f64.format.order (fb a) (fb 16) == some .gt) == decide (16 < a)) = true := by kernel_rfl
theorem fb_gt {a : Nat} (ha : a < 44) : (FloatKind.f64.format.order (fb a) (fb 16) == some .gt) = decide (16 < a) := by
  have h := fb_gt_tab
  rw [List.all_eq_true] at h
  exact eq_of_beq (h a (List.mem_range.2 ha))
theorem fb_int_tab : ((List.range 44).all fun a => decide ((FloatKind.f64.decode (fb a)).toInt .zero = some (a : Int))) = true := by kernel_rfl
theorem fb_int {a : Nat} (ha : a < 44) : (FloatKind.f64.decode (fb a)).toInt .zero = some (a : Int) := by
  have h := fb_int_tab
  rw [List.all_eq_true] at h
  exact of_decide_eq_true (h a (List.mem_range.2 ha))

def cxv (p : Nat × Nat) : Value := .complex .f64 (fb p.1) (fb p.2)
section
variable {P : Program} {n : Nat} {Q : Exit → (Nat → Value) → World → Prop} {σ : Nat → Value} {w : World}
variable {ops : Array Oper} {rest : List Oper} {dst : Option Tmp} {ty : TypeId} {ps : String} {af : Array Edge} {g : Option (Nat × Bool)}
theorem R_cadd {t t' : TypeId} {x y : Operand} {a b c d : Nat} (hx : ev n σ x = cxv (a, b)) (hy : ev n σ y = cxv (c, d)) (ha : a < 44) (hb : b < 44) (hc : c < 2) (hd : d < 2)
     :
    (execOp (ev n σ) ⟨dst, .binOp .add t x y t', ty, ps, af, g⟩).run P w = .ok (.value ((cxv (a + c, b + d)))) w := by
  simp [execOp, hx, hy, cxv, eqGuard, binOp, Op.complexOp, Op.Complex.arith, Op.floatArith, fb_add ha hc, fb_add hb hd, go_sem]
theorem WO_cadd {t t' : TypeId} {x y : Operand} {a b c d : Nat} (hg : gOk ops n σ g = true) (hx : ev n σ x = cxv (a, b)) (hy : ev n σ y = cxv (c, d)) (ha : a < 44) (hb : b < 44) (hc : c < 2) (hd : d < 2)
    (next : WO P n ops rest Q (updo σ dst ((cxv (a + c, b + d)))) w) : WO P n ops (⟨dst, .binOp .add t x y t', ty, ps, af, g⟩ :: rest) Q σ w :=
  WO_val hg (R_cadd hx hy ha hb hc hd) next
theorem R_imag {t : TypeId} {x : Operand} {a b : Nat} (hx : ev n σ x = cxv (a, b))
     :
    (execOp (ev n σ) ⟨dst, .call { callee := .builtin .imag, args := #[x], argTypes := #[t] }, ty, ps, af, g⟩).run P w = .ok (.value ((.float .f64 (fb b)))) w := by
  have e : Builtin.imag_ #[t] ty #[.complex .f64 (fb a) (fb b)] = pure (.float .f64 (fb b)) := rfl
  simp [execOp, resolve, invoke, builtin, hx, cxv, e, go_sem]
theorem WO_imag {t : TypeId} {x : Operand} {a b : Nat} (hg : gOk ops n σ g = true) (hx : ev n σ x = cxv (a, b))
    (next : WO P n ops rest Q (updo σ dst ((.float .f64 (fb b)))) w) : WO P n ops (⟨dst, .call { callee := .builtin .imag, args := #[x], argTypes := #[t] }, ty, ps, af, g⟩ :: rest) Q σ w :=
  WO_val hg (R_imag hx) next
theorem R_real {t : TypeId} {x : Operand} {a b : Nat} (hx : ev n σ x = cxv (a, b))
     :
    (execOp (ev n σ) ⟨dst, .call { callee := .builtin .real, args := #[x], argTypes := #[t] }, ty, ps, af, g⟩).run P w = .ok (.value ((.float .f64 (fb a)))) w := by
  have e : Builtin.real_ #[t] ty #[.complex .f64 (fb a) (fb b)] = pure (.float .f64 (fb a)) := rfl
  simp [execOp, resolve, invoke, builtin, hx, cxv, e, go_sem]
theorem WO_real {t : TypeId} {x : Operand} {a b : Nat} (hg : gOk ops n σ g = true) (hx : ev n σ x = cxv (a, b))
    (next : WO P n ops rest Q (updo σ dst ((.float .f64 (fb a)))) w) : WO P n ops (⟨dst, .call { callee := .builtin .real, args := #[x], argTypes := #[t] }, ty, ps, af, g⟩ :: rest) Q σ w :=
  WO_val hg (R_real hx) next
theorem R_f16 {t t' : TypeId} {x y : Operand} {a : Nat} (hx : ev n σ x = .float .f64 (fb a)) (hy : ev n σ y = .float .f64 (fb 16)) (ha : a < 44)
     :
    (execOp (ev n σ) ⟨dst, .binOp .gtr t x y t', ty, ps, af, g⟩).run P w = .ok (.value ((.bool (decide (16 < a))))) w := by
  simp only [execOp, hx, hy, eqGuard, binOp, Op.floatCmp]
  simp [fb_gt ha, go_sem]
theorem WO_f16 {t t' : TypeId} {x y : Operand} {a : Nat} (hg : gOk ops n σ g = true) (hx : ev n σ x = .float .f64 (fb a)) (hy : ev n σ y = .float .f64 (fb 16)) (ha : a < 44)
    (next : WO P n ops rest Q (updo σ dst ((.bool (decide (16 < a))))) w) : WO P n ops (⟨dst, .binOp .gtr t x y t', ty, ps, af, g⟩ :: rest) Q σ w :=
  WO_val hg (R_f16 hx hy ha) next
theorem R_fint {t t' : TypeId} {x : Operand} {a : Nat} (hx : ev n σ x = .float .f64 (fb a)) (ht : P.underlying t = some (.float .f64)) (ht' : P.underlying t' = some (.int .i64)) (ha : a < 44)
     :
    (execOp (ev n σ) ⟨dst, .convert t t' x, ty, ps, af, g⟩).run P w = .ok (.value ((.int .i64 (a : Int)))) w := by
  have h1 : IntKind.i64.min ≤ (a : Int) ∧ (a : Int) ≤ IntKind.i64.max := by
    have e1 : IntKind.i64.min = -9223372036854775808 := by decide
    have e2 : IntKind.i64.max = 9223372036854775807 := by decide
    omega
  simp [execOp, hx, convert, run_underlying ht, run_underlying ht', Conv.floatToInt, fb_int ha, go_sem]
  intro h; omega
theorem WO_fint {t t' : TypeId} {x : Operand} {a : Nat} (hg : gOk ops n σ g = true) (hx : ev n σ x = .float .f64 (fb a)) (ht : P.underlying t = some (.float .f64)) (ht' : P.underlying t' = some (.int .i64)) (ha : a < 44)
    (next : WO P n ops rest Q (updo σ dst ((.int .i64 (a : Int)))) w) : WO P n ops (⟨dst, .convert t t' x, ty, ps, af, g⟩ :: rest) Q σ w :=
  WO_val hg (R_fint hx ht ht' ha) next
end
end Go.Proofs.Ytcnmbdabnppbeaa
