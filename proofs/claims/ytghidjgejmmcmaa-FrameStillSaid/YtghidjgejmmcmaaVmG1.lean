/- Values and seeds in the machine of plain values. No conditions. -/
import Derived.Test.YtghidjgejmmcmaaVmA1
import Derived.Test.YtghidjgejmmcmaaVmFA
import Derived.Test.YtghidjgejmmcmaaVmM4
import Derived.Test.YtghidjgejmmcmaaVmSL
set_option linter.unusedVariables false
set_option linter.unusedSimpArgs false
namespace Go.Proofs.YtghidjgejmmcmaaW.Rg
open Go.Proofs.YtghidjgejmmcmaaW.Vm Go.Proofs.YtghidjgejmmcmaaW.Md Go.Proofs.YtghidjgejmmcmaaW.Fl
open Go Go.Proofs
@[reducible] def encV (v : Vl) : D := .agg [I v.re, I v.im]
section
variable {P : Program} (t : TypeId) (x y : Operand)
theorem fbits_add {a b : Int} (ha : a.natAbs < 2 ^ 53) (hb : b.natAbs < 2 ^ 53) (hc : (a + b).natAbs < 2 ^ 53) : FloatKind.f64.format.add (F a) (F b) = some (F (a + b)) := add_F a b ha hb hc
theorem fbits_sub {a b : Int} (ha : a.natAbs < 2 ^ 53) (hb : b.natAbs < 2 ^ 53) (hc : (a - b).natAbs < 2 ^ 53) : FloatKind.f64.format.sub (F a) (F b) = some (F (a - b)) := sub_F a b ha hb hc
theorem fbits_mul {a b : Int} (ha : a.natAbs < 2 ^ 53) (hb : b.natAbs < 2 ^ 53) (ha0 : 0 ≤ a) (hb0 : 0 ≤ b) (hc : (a * b).natAbs < 2 ^ 53) : FloatKind.f64.format.mul (F a) (F b) = some (F (a * b)) := mul_F a b ha hb ha0 hb0 hc
theorem bin_cadd {a b c d : Int} (ha : 0 ≤ a ∧ a < 251) (hb : 0 ≤ b ∧ b < 251) (hc : 0 ≤ c ∧ c < 251) (hd : 0 ≤ d ∧ d < 251) : binD P .add t x y (.cpx .f64 (F a) (F b)) (.cpx .f64 (F c) (F d)) = some (.cpx .f64 (F (a + c)) (F (b + d))) := by
  have h1 := fbits_add (a := a) (b := c) (by omega) (by omega) (by omega)
  have h2 := fbits_add (a := b) (b := d) (by omega) (by omega) (by omega)
  simp [binD, scal, eqGuard, binOp, Op.complexOp, Op.Complex.arith, Op.floatArith, semPure, bind, Sem.bind, pure, ofVal1, h1, h2]
theorem bin_csub {a b c d : Int} (ha : 0 ≤ a ∧ a < 251) (hb : 0 ≤ b ∧ b < 251) (hc : 0 ≤ c ∧ c < 251) (hd : 0 ≤ d ∧ d < 251) : binD P .sub t x y (.cpx .f64 (F a) (F b)) (.cpx .f64 (F c) (F d)) = some (.cpx .f64 (F (a - c)) (F (b - d))) := by
  have h1 := fbits_sub (a := a) (b := c) (by omega) (by omega) (by omega)
  have h2 := fbits_sub (a := b) (b := d) (by omega) (by omega) (by omega)
  simp [binD, scal, eqGuard, binOp, Op.complexOp, Op.Complex.arith, Op.floatArith, semPure, bind, Sem.bind, pure, ofVal1, h1, h2]
theorem mul250 {a c : Int} (ha : 0 ≤ a ∧ a < 251) (hc : 0 ≤ c ∧ c < 251) : 0 ≤ a * c ∧ a * c ≤ 62500 := by
  refine ⟨Int.mul_nonneg ha.1 hc.1, ?_⟩
  have := Int.mul_le_mul (show a ≤ 250 by omega) (show c ≤ 250 by omega) hc.1 (by decide)
  omega
theorem bin_cmul {a b c d : Int} (ha : 0 ≤ a ∧ a < 251) (hb : 0 ≤ b ∧ b < 251) (hc : 0 ≤ c ∧ c < 251) (hd : 0 ≤ d ∧ d < 251) : binD P .mul t x y (.cpx .f64 (F a) (F b)) (.cpx .f64 (F c) (F d)) = some (.cpx .f64 (F (a * c - b * d)) (F (a * d + b * c))) := by
  have p1 := mul250 ha hc; have p2 := mul250 hb hd; have p3 := mul250 ha hd; have p4 := mul250 hb hc
  have h1 := fbits_mul (a := a) (b := c) (by omega) (by omega) ha.1 hc.1 (by omega)
  have h2 := fbits_mul (a := b) (b := d) (by omega) (by omega) hb.1 hd.1 (by omega)
  have h3 := fbits_mul (a := a) (b := d) (by omega) (by omega) ha.1 hd.1 (by omega)
  have h4 := fbits_mul (a := b) (b := c) (by omega) (by omega) hb.1 hc.1 (by omega)
  have h5 := fbits_sub (a := a * c) (b := b * d) (by omega) (by omega) (by omega)
  have h6 := fbits_add (a := a * d) (b := b * c) (by omega) (by omega) (by omega)
  simp [binD, scal, eqGuard, binOp, Op.complexOp, Op.Complex.arith, Op.Complex.conv, Op.Complex.product, Op.Complex.mul, Op.Complex.sub, Op.Complex.add, Op.floatArith, semPure, bind, Sem.bind, pure, ofVal1, h1, h2, h3, h4, h5, h6]
theorem F0 : F 0 = 0 := by decide
theorem bin_ceq0 {a b : Int} (ha : 0 ≤ a ∧ a < 251) (hb : 0 ≤ b ∧ b < 251) : binD P .eql t x y (.cpx .f64 (F a) (F b)) (.cpx .f64 0 0) = some (.bool (decide (a = 0) && decide (b = 0))) := by
  have h1 : (FloatKind.f64.format.order (F a) 0 == some .eq) = decide (a = 0) := by have := order_F a 0 (by omega) (by omega); rwa [F0] at this
  have h2 : (FloatKind.f64.format.order (F b) 0 == some .eq) = decide (b = 0) := by have := order_F b 0 (by omega) (by omega); rwa [F0] at this
  simp only [binD, scal, eqGuard, binOp, Op.complexOp, Op.Complex.cmp, Op.floatCmp, asBool, semPure, bind, Sem.bind, pure, ofVal1, h1, h2]
  rfl
end
theorem eq_val (s t : Operand) (x y : Vl) : binD Try.prog .eql 33 s t (encV x) (encV y) = some (.bool (decide (x = y))) := by
  obtain ⟨a, b⟩ := x
  obtain ⟨c, d⟩ := y
  simp [binD, scal, eqD, ft33, scalsEq, scalEq]
  by_cases h1 : a = c <;> by_cases h2 : b = d <;> simp [h1, h2]
theorem neq_val (s t : Operand) (x y : Vl) : binD Try.prog .neq 33 s t (encV x) (encV y) = some (.bool (!decide (x = y))) := by
  obtain ⟨a, b⟩ := x
  obtain ⟨c, d⟩ := y
  simp [binD, scal, eqD, ft33, scalsEq, scalEq]
  by_cases h1 : a = c <;> by_cases h2 : b = d <;> simp [h1, h2]
theorem ev_cpx (σ : Nat → D) (k a b) : ev σ (.const (.complex k a b)) = some (.cpx k a b) := rfl
theorem bt_real (h : List Ob) (ats ty k a b) : builtinD Try.prog h .real ats ty [.cpx k a b] = some (.flt k a, h) := rfl
theorem bt_imag (h : List Ob) (ats ty k a b) : builtinD Try.prog h .imag ats ty [.cpx k a b] = some (.flt k b, h) := rfl
theorem bt_cpx (h : List Ob) (ats ty a b) : builtinD Try.prog h .complex ats ty [.flt .f64 a, .flt .f64 b] = some (.cpx .f64 a b, h) := rfl
theorem un_neg (k b) : pure1 Try.prog (Op.unary .neg (.float k b)) = some (.flt k (Op.negFloat k b)) := rfl
theorem scal_flt (k b) : scal (.flt k b) = some (.float k b) := rfl
theorem sp_und {α : Type} {P : Program} {t : TypeId} {u : TypeDesc} {f : TypeDesc → Sem α} (h : P.underlying t = some u) : semPure P ((underlying t).bind f) = semPure P (f u) := by
  simp [underlying, program, Sem.bind, semPure, bind, pure, h]
theorem conv_if {s d : TypeId} {n : Int} {u : TypeDesc} (hs : Try.prog.underlying s = some u) (hd : Try.prog.underlying d = some (.float .f64)) (h : n.natAbs < 2 ^ 53) : convD Try.prog s d (.int .i64 n) = some (.flt .f64 (F n)) := by
  have e := ofInt_F n h
  unfold convD
  simp only [scal, pure1, convert, bind]
  rw [sp_und hs, sp_und hd]
  cases u <;> simp [Conv.intToFloat, semPure, pure, ofVal1, e]
theorem conv_fi {s d : TypeId} {b : Nat} {n : Int} {u : TypeDesc} (hs : Try.prog.underlying s = some u) (hd : Try.prog.underlying d = some (.int .i64)) (e : (FloatKind.f64.decode b).toInt .zero = some n) (h : n.natAbs < 2 ^ 53) : convD Try.prog s d (.flt .f64 b) = some (.int .i64 n) := by
  have h1 : IntKind.i64.min ≤ n ∧ n ≤ IntKind.i64.max := by
    have a1 : IntKind.i64.min = -9223372036854775808 := by decide
    have a2 : IntKind.i64.max = 9223372036854775807 := by decide
    rw [a1, a2]; omega
  unfold convD
  simp only [scal, pure1, convert, bind]
  rw [sp_und hs, sp_und hd]
  have hf : semPure Try.prog (Conv.floatToInt .f64 b .i64) = some (.int .i64 n) := by
    unfold Conv.floatToInt
    simp only [e]
    rw [if_pos h1]; rfl
  cases u <;> simp only [hf] <;> rfl
end Go.Proofs.YtghidjgejmmcmaaW.Rg
