/- Values and seeds in the machine of plain values. No conditions. -/
import Derived.Test.YtlpadffinfijgaaVmEA
import Derived.Test.YtlpadffinfijgaaVmFA
import Derived.Test.YtlpadffinfijgaaVmMM
set_option linter.unusedVariables false
set_option linter.unusedSimpArgs false
namespace Go.Proofs.YtlpadffinfijgaaW.Rg
open Go.Proofs.YtlpadffinfijgaaW.Vm Go.Proofs.YtlpadffinfijgaaW.Md Go.Proofs.YtlpadffinfijgaaW.Fl
open Go Go.Proofs
@[reducible] def encV (v : Vl) : D := .agg [I v.re, I v.im]
section
variable {P : Program} (t : TypeId) (x y : Operand)
theorem fbits_add {a b : Int} (ha : a.natAbs < 2 ^ 53) (hb : b.natAbs < 2 ^ 53) (hc : (a + b).natAbs < 2 ^ 53) : FloatKind.f64.format.add (F a) (F b) = some (F (a + b)) := add_F a b ha hb hc
theorem fbits_sub {a b : Int} (ha : a.natAbs < 2 ^ 53) (hb : b.natAbs < 2 ^ 53) (hc : (a - b).natAbs < 2 ^ 53) : FloatKind.f64.format.sub (F a) (F b) = some (F (a - b)) := sub_F a b ha hb hc
theorem fbits_mul {a b : Int} (ha : a.natAbs < 2 ^ 53) (hb : b.natAbs < 2 ^ 53) (ha0 : 0 ≤ a) (hb0 : 0 ≤ b) (hc : (a * b).natAbs < 2 ^ 53) : FloatKind.f64.format.mul (F a) (F b) = some (F (a * b)) := mul_F a b ha hb ha0 hb0 hc
theorem bin_cadd {a b c d : Int} (ha : 0 ≤ a ∧ a < 251) (hb : 0 ≤ b ∧ b < 251) (hc : 0 ≤ c ∧ c < 251) (hd : 0 ≤ d ∧ d < 251) : binD P .add t x y (.cpx .f64 (F a) (F b)) (.cpx .f64 (F c) (F d)) = some (.cpx .f64 (F (a + c)) (F (b + d))) := by
  have h1 := fbits_add (a := a) (b := c) (by omega) (by omega) (by omega)
  have h2 := fbits_add (a := b) (b := d) (by omega) (by omega) (by omega)
  simp [binD, scal, eqGuard, binOp, Op.complexOp, Op.Complex.arith, Op.floatArith, semPure, bind, Sem.bind, pure, ofVal1, h1, h2]
theorem bin_csub {a b c d : Int} (ha : 0 ≤ a ∧ a < 251) (hb : 0 ≤ b ∧ b < 251) (hc : 0 ≤ c ∧ c < 251) (hd : 0 ≤ d ∧ d < 251) : binD P .sub t x y (.cpx .f64 (F a) (F b)) (.cpx .f64 (F c) (F d)) = some (.cpx .f64 (F (a - c)) (F (b - d))) := by
  have h1 := fbits_sub (a := a) (b := c) (by omega) (by omega) (by omega)
  have h2 := fbits_sub (a := b) (b := d) (by omega) (by omega) (by omega)
  simp [binD, scal, eqGuard, binOp, Op.complexOp, Op.Complex.arith, Op.floatArith, semPure, bind, Sem.bind, pure, ofVal1, h1, h2]
theorem mul250 {a c : Int} (ha : 0 ≤ a ∧ a < 251) (hc : 0 ≤ c ∧ c < 251) : 0 ≤ a * c ∧ a * c ≤ 62500 := by
  refine ⟨Int.mul_nonneg ha.1 hc.1, ?_⟩
  have := Int.mul_le_mul (show a ≤ 250 by omega) (show c ≤ 250 by omega) hc.1 (by decide)
  omega
theorem bin_cmul {a b c d : Int} (ha : 0 ≤ a ∧ a < 251) (hb : 0 ≤ b ∧ b < 251) (hc : 0 ≤ c ∧ c < 251) (hd : 0 ≤ d ∧ d < 251) : binD P .mul t x y (.cpx .f64 (F a) (F b)) (.cpx .f64 (F c) (F d)) = some (.cpx .f64 (F (a * c - b * d)) (F (a * d + b * c))) := by
  have p1 := mul250 ha hc; have p2 := mul250 hb hd; have p3 := mul250 ha hd; have p4 := mul250 hb hc
  have h1 := fbits_mul (a := a) (b := c) (by omega) (by omega) ha.1 hc.1 (by omega)
  have h2 := fbits_mul (a := b) (b := d) (by omega) (by omega) hb.1 hd.1 (by omega)
  have h3 := fbits_mul (a := a) (b := d) (by omega) (by omega) ha.1 hd.1 (by omega)
  have h4 := fbits_mul (a := b) (b := c) (by omega) (by omega) hb.1 hc.1 (by omega)
  have h5 := fbits_sub (a := a * c) (b := b * d) (by omega) (by omega) (by omega)
  have h6 := fbits_add (a := a * d) (b := b * c) (by omega) (by omega) (by omega)
  simp [binD, scal, eqGuard, binOp, Op.complexOp, Op.Complex.arith, Op.Complex.conv, Op.Complex.product, Op.Complex.mul, Op.Complex.sub, Op.Complex.add, Op.floatArith, semPure, bind, Sem.bind, pure, ofVal1, h1, h2, h3, h4, h5, h6]
theorem F0 : F 0 = 0 := by decide
theorem bin_ceq0 {a b : Int} (ha : 0 ≤ a ∧ a < 251) (hb : 0 ≤ b ∧ b < 251) : binD P .eql t x y (.cpx .f64 (F a) (F b)) (.cpx .f64 0 0) = some (.bool (decide (a = 0) && decide (b = 0))) := by
  have h1 : (FloatKind.f64.format.order (F a) 0 == some .eq) = decide (a = 0) := by have := order_F a 0 (by omega) (by omega); rwa [F0] at this
  have h2 : (FloatKind.f64.format.order (F b) 0 == some .eq) = decide (b = 0) := by have := order_F b 0 (by omega) (by omega); rwa [F0] at this
  simp only [binD, scal, eqGuard, binOp, Op.complexOp, Op.Complex.cmp, Op.floatCmp, asBool, semPure, bind, Sem.bind, pure, ofVal1, h1, h2]
  rfl
end
theorem eq_val (s t : Operand) (x y : Vl) : binD Try.prog .eql 30 s t (encV x) (encV y) = some (.bool (decide (x = y))) := by
  obtain ⟨a, b⟩ := x
  obtain ⟨c, d⟩ := y
  simp [binD, scal, eqD, ft30, scalsEq, scalEq]
  by_cases h1 : a = c <;> by_cases h2 : b = d <;> simp [h1, h2]
theorem neq_val (s t : Operand) (x y : Vl) : binD Try.prog .neq 30 s t (encV x) (encV y) = some (.bool (!decide (x = y))) := by
  obtain ⟨a, b⟩ := x
  obtain ⟨c, d⟩ := y
  simp [binD, scal, eqD, ft30, scalsEq, scalEq]
  by_cases h1 : a = c <;> by_cases h2 : b = d <;> simp [h1, h2]
theorem ev_cpx (σ : Nat → D) (k a b) : ev σ (.const (.complex k a b)) = some (.cpx k a b) := rfl
theorem bt_real (h : List Ob) (ats ty k a b) : builtinD Try.prog h .real ats ty [.cpx k a b] = some (.flt k a, h) := rfl
theorem bt_imag (h : List Ob) (ats ty k a b) : builtinD Try.prog h .imag ats ty [.cpx k a b] = some (.flt k b, h) := rfl
theorem bt_cpx (h : List Ob) (ats ty a b) : builtinD Try.prog h .complex ats ty [.flt .f64 a, .flt .f64 b] = some (.cpx .f64 a b, h) := rfl
theorem un_neg (k b) : pure1 Try.prog (Op.unary .neg (.float k b)) = some (.flt k (Op.negFloat k b)) := rfl
theorem scal_flt (k b) : scal (.flt k b) = some (.float k b) := rfl
theorem sp_und {α : Type} {P : Program} {t : TypeId} {u : TypeDesc} {f : TypeDesc → Sem α} (h : P.underlying t = some u) : semPure P ((underlying t).bind f) = semPure P (f u) := by
  simp [underlying, program, Sem.bind, semPure, bind, pure, h]
theorem conv_if {s d : TypeId} {n : Int} {u : TypeDesc} (hs : Try.prog.underlying s = some u) (hd : Try.prog.underlying d = some (.float .f64)) (h : n.natAbs < 2 ^ 53) : convD Try.prog s d (.int .i64 n) = some (.flt .f64 (F n)) := by
  have e := ofInt_F n h
  unfold convD
  simp only [scal, pure1, convert, bind]
  rw [sp_und hs, sp_und hd]
  cases u <;> simp [Conv.intToFloat, semPure, pure, ofVal1, e]
theorem conv_fi {s d : TypeId} {b : Nat} {n : Int} {u : TypeDesc} (hs : Try.prog.underlying s = some u) (hd : Try.prog.underlying d = some (.int .i64)) (e : (FloatKind.f64.decode b).toInt .zero = some n) (h : n.natAbs < 2 ^ 53) : convD Try.prog s d (.flt .f64 b) = some (.int .i64 n) := by
  have h1 : IntKind.i64.min ≤ n ∧ n ≤ IntKind.i64.max := by
    have a1 : IntKind.i64.min = -9223372036854775808 := by decide
    have a2 : IntKind.i64.max = 9223372036854775807 := by decide
    rw [a1, a2]; omega
  unfold convD
  simp only [scal, pure1, convert, bind]
  rw [sp_und hs, sp_und hd]
  have hf : semPure Try.prog (Conv.floatToInt .f64 b .i64) = some (.int .i64 n) := by
    unfold Conv.floatToInt
    simp only [e]
    rw [if_pos h1]; rfl
  cases u <;> simp only [hf] <;> rfl
end Go.Proofs.YtlpadffinfijgaaW.Rg
set_option linter.unusedVariables false
set_option linter.unusedSimpArgs false
namespace Go.Proofs.YtlpadffinfijgaaW.Rg
open Go.Proofs.YtlpadffinfijgaaW.Vm Go.Proofs.YtlpadffinfijgaaW.Md Go.Proofs.YtlpadffinfijgaaW.Fl
open Go Go.Proofs
theorem rest_mod (n : Int) : (IntKind.i64.wrap (n.tmod 251 + 251)).tmod 251 = n % 251 := by
  have h := Int.tmod_lt_of_pos n (show (0 : Int) < 251 by decide)
  have h2 : -251 < n.tmod 251 := by
    by_cases h0 : 0 ≤ n
    · have := Int.tmod_nonneg 251 h0; omega
    · have e : n.tmod 251 = -((-n).tmod 251) := by rw [Int.neg_tmod]; omega
      have := Int.tmod_lt_of_pos (-n) (show (0 : Int) < 251 by decide)
      omega
  rw [wr (by omega) (by omega), Int.tmod_eq_emod_of_nonneg (by omega)]
  have e := Int.tmod_add_mul_tdiv n 251
  omega
theorem rest_spec (n : Int) : fnc Try.prog cfg R 55 [I n] = some (I (n % 251)) := by
  rw [fnc_at rfl, body_eq Try.func55 rfl rfl]
  have b1 := bin_rem Try.prog 3 (.tmp 3) (.const (.int .i64 251)) .i64 n 251 (by decide)
  have b2 := bin_rem Try.prog 3 (.tmp 5) (.const (.int .i64 251)) .i64 (IntKind.i64.wrap (n.tmod 251 + 251)) 251 (by decide)
  rw [rest_mod] at b2
  simp [argsσ, Vm.results, b1, b2]
theorem Of_spec (a b : Int) : fnc Try.prog cfg R 92 [I a, I b] = some (encV (ofG a b)) := by
  rw [fnc_at rfl, body_eq Try.func92 rfl rfl]
  have h1 := rest_spec a; have h2 := rest_spec b
  simp [argsσ, Vm.results, h1, h2, ofG]
theorem rng (n : Int) : 0 ≤ n % 251 ∧ n % 251 < 251 := by omega
theorem of_spec (v : Vl) : fnc Try.prog cfg R 106 [encV v] = some (.cpx .f64 (F (v.re % 251)) (F (v.im % 251))) := by
  rw [fnc_at rfl, body_eq Try.func106 rfl rfl]
  have h1 := rest_spec v.re; have h2 := rest_spec v.im
  have r1 := rng v.re; have r2 := rng v.im
  have c1 := conv_if (n := v.re % 251) un3 Try.underlying158 (by omega)
  have c2 := conv_if (n := v.im % 251) un3 Try.underlying158 (by omega)
  have hd := dr106_1
  simp [opsAt, opsIn, Try.f106] at hd
  have hdw := Wdraw0 hd
  clear hd
  simp [argsσ, Vm.results, h1, h2, hdw, c1, c2, ev_cpx, bt_cpx]
theorem value_spec (a b : Int) (ha : a.natAbs < 2 ^ 53) (hb : b.natAbs < 2 ^ 53) : fnc Try.prog cfg R 105 [.cpx .f64 (F a) (F b)] = some (encV (ofG a b)) := by
  rw [fnc_at rfl, body_eq Try.func105 rfl rfl]
  have h1 := Of_spec a b
  have c1 := conv_fi (n := a) Try.underlying158 un3 (toInt_F a ha) ha
  have c2 := conv_fi (n := b) Try.underlying158 un3 (toInt_F b hb) hb
  simp [argsσ, Vm.results, h1, c1, c2, bt_real, bt_imag]
theorem Add_spec (a b : Vl) : fnc Try.prog cfg R 88 [encV a, encV b] = some (encV (addG a b)) := by
  rw [fnc_at rfl, body_eq Try.func88 rfl rfl]
  have h1 := of_spec a; have h2 := of_spec b
  have r1 := rng a.re; have r2 := rng a.im; have r3 := rng b.re; have r4 := rng b.im
  have b1 := fun t x y => bin_cadd (P := Try.prog) t x y r1 r2 r3 r4
  have h3 := value_spec (a.re % 251 + b.re % 251) (a.im % 251 + b.im % 251) (by omega) (by omega)
  have hd := dr88_1
  simp [opsAt, opsIn, Try.f88] at hd
  have hdw := Wdraw hd
  clear hd
  simp [argsσ, Vm.results, h1, h2, h3, hdw, b1, logL, loud, isE, drawChk, addG]
theorem Sub_spec (a b : Vl) : fnc Try.prog cfg R 89 [encV a, encV b] = some (encV (subG a b)) := by
  rw [fnc_at rfl, body_eq Try.func89 rfl rfl]
  have h1 := of_spec a; have h2 := of_spec b
  have r1 := rng a.re; have r2 := rng a.im; have r3 := rng b.re; have r4 := rng b.im
  have b1 := fun t x y => bin_csub (P := Try.prog) t x y r1 r2 r3 r4
  have h3 := value_spec (a.re % 251 - b.re % 251) (a.im % 251 - b.im % 251) (by omega) (by omega)
  have hd := dr89_1
  simp [opsAt, opsIn, Try.f89] at hd
  have hdw := Wdraw hd
  clear hd
  simp [argsσ, Vm.results, h1, h2, h3, hdw, b1, logL, loud, isE, drawChk, subG]
theorem Mul_spec (a b : Vl) : fnc Try.prog cfg R 90 [encV a, encV b] = some (encV (mulG a b)) := by
  rw [fnc_at rfl, body_eq Try.func90 rfl rfl]
  have h1 := of_spec a; have h2 := of_spec b
  have r1 := rng a.re; have r2 := rng a.im; have r3 := rng b.re; have r4 := rng b.im
  have b1 := fun t x y => bin_cmul (P := Try.prog) t x y r1 r2 r3 r4
  have p1 := mul250 r1 r3; have p2 := mul250 r2 r4; have p3 := mul250 r1 r4; have p4 := mul250 r2 r3
  have h3 := value_spec (a.re % 251 * (b.re % 251) - a.im % 251 * (b.im % 251)) (a.re % 251 * (b.im % 251) + a.im % 251 * (b.re % 251)) (by omega) (by omega)
  have hd := dr90_1
  simp [opsAt, opsIn, Try.f90] at hd
  have hdw := Wdraw hd
  clear hd
  simp [argsσ, Vm.results, h1, h2, h3, hdw, b1, logL, loud, isE, drawChk, mulG]
theorem Conj_spec (a : Vl) : fnc Try.prog cfg R 93 [encV a] = some (encV (conjG a)) := by
  rw [fnc_at rfl, body_eq Try.func93 rfl rfl]
  have h1 := of_spec a
  have r1 := rng a.re; have r2 := rng a.im
  obtain ⟨k, hk⟩ := fin251 r2.1 r2.2
  have hn := neg_F k
  rw [← hk] at hn
  have c1 := conv_fi (n := a.re % 251) Try.underlying158 un3 (toInt_F _ (by omega)) (by omega)
  have c2 := conv_fi (n := -(a.im % 251)) Try.underlying158 un3 hn (by omega)
  have h2 := Of_spec (a.re % 251) (-(a.im % 251))
  have h3 : fnc Try.prog cfg R 105 [.cpx .f64 (F (a.re % 251)) (Op.negFloat .f64 (F (a.im % 251)))] = some (encV (ofG (a.re % 251) (-(a.im % 251)))) := by
    rw [fnc_at rfl, body_eq Try.func105 rfl rfl]
    simp [argsσ, Vm.results, h2, c1, c2, bt_real, bt_imag]
  simp [argsσ, Vm.results, h1, h3, op_un, un_neg, scal_flt, bt_real, bt_imag, bt_cpx, conjG]
theorem gmay_spec (v : Vl) : fnc Try.prog cfg R 35 [encV v] = some (.bool v.may) := by
  rw [fnc_at rfl, body_eq Try.func35 rfl rfl]
  have h1 := rest_spec v.re; have h2 := rest_spec v.im
  have hd := dr35_1
  simp [opsAt, opsIn, Try.f35] at hd
  have hdw := Wdraw0 hd
  clear hd
  have e : v.may = (decide (v.re = v.re % 251) && decide (v.im = v.im % 251)) := by
    unfold Vl.may
    rw [Bool.eq_iff_iff]; simp only [Bool.and_eq_true, decide_eq_true_eq]; omega
  rw [e]
  have hq := fun s t => eq_val s t v ⟨v.re % 251, v.im % 251⟩
  have e2 : decide (v = ⟨v.re % 251, v.im % 251⟩) = (decide (v.re = v.re % 251) && decide (v.im = v.im % 251)) := by
    obtain ⟨a, b⟩ := v
    rw [Bool.eq_iff_iff]; simp
  rw [e2] at hq
  simp [argsσ, Vm.results, h1, h2, hdw, hq]
end Go.Proofs.YtlpadffinfijgaaW.Rg
set_option linter.unusedVariables false
set_option linter.unusedSimpArgs false
namespace Go.Proofs.YtlpadffinfijgaaW.Rg
open Go.Proofs.YtlpadffinfijgaaW.Vm Go.Proofs.YtlpadffinfijgaaW.Md Go.Proofs.YtlpadffinfijgaaW.Fl
open Go Go.Proofs
theorem pow_loop (r : Vl) {X : Type} (K : Ex × St → Option X) (Q : Option X → Prop) : ∀ (k n : Nat) (o a : Vl) (σ : Nat → D), n < 2 ^ k → n < 65536 → σ 1 = I n → σ 2 = .ptr 0 0 0 0 → σ 4 = .ptr 1 0 0 0 → σ 5 = .ptr 2 0 0 0 →
    (∀ σ' a', σ' 4 = .ptr 1 0 0 0 → σ' 5 = .ptr 2 0 0 0 → Q (K (.exit 0, ⟨σ', [⟨0, 2, [encV a'], 0⟩, ⟨0, 2, [encV r], 0⟩, ⟨0, 2, [encV (powL k n o a)], 0⟩], 27⟩))) →
    Q ((W Try.prog cfg (.loop (loopAt Try.f107 5)) ⟨σ, [⟨0, 2, [encV a], 0⟩, ⟨0, 2, [encV r], 0⟩, ⟨0, 2, [encV o], 0⟩], 27⟩).bind K) := by
  intro k
  induction k with
  | zero =>
    intro n o a σ hn hn2 s1 s2 s4 s5 hK
    have h0 : n = 0 := by simpa using hn
    subst h0
    rw [Wloop]
    conv => arg 1; arg 1; arg 1; simp [loopAt, loopIn, headId, Try.f107, s1]
    exact hK _ a s4 s5
  | succ k ih =>
    intro n o a σ hn hn2 s1 s2 s4 s5 hK
    by_cases h0 : n = 0
    · subst h0
      unfold powL at hK
      rw [Wloop]
      conv => arg 1; arg 1; arg 1; simp [loopAt, loopIn, headId, Try.f107, s1]
      exact hK _ a s4 s5
    · have hpos : decide ((0 : Int) < n) = true := dt (by omega)
      have hpos' : decide (0 < n) = true := dt (by omega)
      have q1 : ((n : Int).tmod 2) = ((n % 2 : Nat) : Int) := by rw [Int.tmod_eq_emod_of_nonneg (by omega)]; omega
      have q2 : IntKind.i64.wrap ((n : Int).tdiv 2) = ((n / 2 : Nat) : Int) := by rw [Int.tdiv_eq_ediv_of_nonneg (by omega), wr (by omega) (by omega)]; omega
      have b1 := fun x y => bin_rem Try.prog 3 x y .i64 (n : Int) 2 (by decide)
      have b2 := fun x y => bin_quo Try.prog 3 x y .i64 (n : Int) 2 (by decide)
      rw [q1] at b1
      rw [q2] at b2
      have m1 := Mul_spec o a; have m2 := Mul_spec a a
      have hk : n / 2 < 2 ^ k := by rw [Nat.pow_succ] at hn; omega
      unfold powL at hK
      rw [if_neg h0] at hK
      rcases Nat.mod_two_eq_zero_or_one n with h1 | h1
      · rw [if_neg (by omega)] at hK
        rw [h1] at b1
        rw [Wloop]
        conv => arg 1; arg 1; arg 1; simp [loopAt, loopIn, headId, Try.f107, s1, s2, s4, s5, hpos, hpos', b1, b2, m1, m2]
        rw [Option.bind_some, loopK_normal]
        exact ih (n / 2) o (mulG a a) _ hk (by omega) (by simp) (by simp [s2]) (by simp [s4]) (by simp [s5]) hK
      · rw [if_pos h1] at hK
        rw [h1] at b1
        rw [Wloop]
        conv => arg 1; arg 1; arg 1; simp [loopAt, loopIn, headId, Try.f107, s1, s2, s4, s5, hpos, hpos', b1, b2, m1, m2]
        rw [Option.bind_some, loopK_normal]
        exact ih (n / 2) (mulG o a) (mulG a a) _ hk (by omega) (by simp) (by simp [s2]) (by simp [s4]) (by simp [s5]) hK
theorem Pow_spec (v : Vl) (n : Nat) (hn : n < 65536) : fnc Try.prog cfg R 107 [encV v, I n] = some (encV (powL 16 n oneG v.red)) := by
  have h1 := of_spec v
  have h2 := value_spec (v.re % 251) (v.im % 251) (by have := rng v.re; omega) (by have := rng v.im; omega)
  have e : ofG (v.re % 251) (v.im % 251) = v.red := by simp [ofG, Vl.red]
  rw [e] at h2
  have h3 := Of_spec 1 0
  rw [show ofG 1 0 = oneG from rfl] at h3
  have h0 : decide ((n : Int) < 0) = false := df (by omega)
  rw [fnc_at rfl, body_eq Try.func107 rfl rfl]
  simp [argsσ, h1, h2, h3, h0, Option.bind_assoc]
  refine pow_loop ⟨0, 0⟩ _ (fun o => o = some _) 16 n oneG v.red _ (by simpa using hn) hn (by simp [argsσ]) (by simp) (by simp) (by simp) ?_
  intro σ' a' t4 t5
  simp [t4, t5, Vm.results]
theorem Div_spec (a b : Vl) : fnc Try.prog cfg R 91 [encV a, encV b] = some (match divG a b with | some q => .tup [encV q, .bool true] | none => .tup [encV ⟨0, 0⟩, .bool false]) := by
  have h1 := of_spec b
  have r3 := rng b.re; have r4 := rng b.im
  have b1 := fun t x y => bin_ceq0 (P := Try.prog) t x y r3 r4
  have hd := dr91_3
  simp [opsAt, opsIn, Try.f91] at hd
  have hdw := Wdraw hd
  clear hd
  rw [fnc_at rfl, body_eq Try.func91 rfl rfl]
  cases hq : divG a b with
  | none =>
    have h := (divG_none a b).1 hq
    unfold Vl.red ofG at h
    simp only [Vl.mk.injEq] at h
    have e1 : (decide (b.re % 251 = 0) && decide (b.im % 251 = 0)) = true := by simp [h.1, h.2]
    rw [e1] at b1
    simp [argsσ, Vm.results, h1, ev_cpx, b1]
  | some q =>
    have hne : b.red ≠ ⟨0, 0⟩ := fun h => by rw [(divG_none a b).2 h] at hq; cases hq
    have e1 : (decide (b.re % 251 = 0) && decide (b.im % 251 = 0)) = false := by
      rw [Bool.eq_false_iff]
      intro h
      simp only [Bool.and_eq_true, decide_eq_true_eq] at h
      apply hne
      unfold Vl.red ofG
      rw [h.1, h.2]
    rw [e1] at b1
    have hn : normG b.red ≠ 0 := by
      intro h
      unfold divG at hq
      rw [if_pos h] at hq; cases hq
    have hp := div_pow a b hn
    rw [hq] at hp
    have hp := Option.some.inj hp
    have h2 := Pow_spec b 62999 (by decide)
    have h3 := Mul_spec a (powL 16 62999 oneG b.red)
    rw [← hp] at h3
    generalize powL 16 62999 oneG b.red = w at *
    simp only [show ((62999 : Nat) : Int) = 62999 from rfl] at h2
    simp [argsσ, Vm.results, h1, ev_cpx, b1, hdw, h2, h3, logL, loud, isE, drawChk]
/-! seeds -/
theorem smay_spec (n : Int) : fnc Try.prog cfg R 112 [I n] = some (.bool (isS n)) := by
  rw [fnc_at rfl, body_eq Try.func112 rfl rfl]
  have e : isS n = (decide (0 ≤ n) && decide (n ≤ 4294967295)) := by unfold isS; rw [Bool.eq_iff_iff]; simp
  rw [e]
  cases k1 : decide (0 ≤ n) <;> simp [argsσ, Vm.results, k1]
theorem isS_true {n : Int} (h : isS n = true) : ∃ m : Nat, n = m ∧ m < 4294967296 := by
  unfold isS at h
  have := of_decide_eq_true h
  exact ⟨n.toNat, by omega, by omega⟩
theorem isS_nat {m : Nat} (h : m < 4294967296) : isS (m : Int) = true := by
  unfold isS; exact decide_eq_true (by omega)
theorem bin_xor (t x y k a b) : binD Try.prog .xor t x y (.int k a) (.int k b) = some (.int k (Go.bits .xor k a b)) := by
  simp [binD, scal, eqGuard, binOp, Op.intBits, semPure, bind, Sem.bind, pure, ofVal1, Go.bits]
theorem bin_shr (t x y k k' a) (b : Int) (h : 0 ≤ b) : binD Try.prog .shr t x y (.int k a) (.int k' b) = some (.int k (a.fdiv (2 ^ (min b.toNat k.bits)))) := by
  have : ¬ b < 0 := by omega
  simp [binD, scal, eqGuard, binOp, Op.shift, semPure, bind, Sem.bind, pure, ofVal1, this]
theorem cv_ii {s d : Nat} {k1 k2 : IntKind} (hs : Try.prog.underlying s = some (.int k1)) (hd : Try.prog.underlying d = some (.int k2)) (k : IntKind) (n : Int) : convD Try.prog s d (.int k n) = some (.int k2 (k2.wrap n)) := by
  unfold convD
  simp only [scal, pure1, convert, bind]
  rw [sp_und hs, sp_und hd]
  rfl
theorem shr15 (t x y) (a : Int) : binD Try.prog .shr t x y (.int .u32 a) (.int .u64 15) = some (.int .u32 (a / 32768)) := by
  rw [bin_shr _ _ _ _ _ _ _ (by decide), show (2 : Int) ^ (min (Int.toNat 15) IntKind.u32.bits) = 32768 from rfl, Int.fdiv_eq_ediv_of_nonneg _ (by omega)]
theorem shr13 (t x y) (a : Int) : binD Try.prog .shr t x y (.int .u32 a) (.int .u64 13) = some (.int .u32 (a / 8192)) := by
  rw [bin_shr _ _ _ _ _ _ _ (by decide), show (2 : Int) ^ (min (Int.toNat 13) IntKind.u32.bits) = 8192 from rfl, Int.fdiv_eq_ediv_of_nonneg _ (by omega)]
theorem shr16 (t x y) (a : Int) : binD Try.prog .shr t x y (.int .i64 a) (.int .u64 16) = some (.int .i64 (a / 65536)) := by
  rw [bin_shr _ _ _ _ _ _ _ (by decide), show (2 : Int) ^ (min (Int.toNat 16) IntKind.i64.bits) = 65536 from rfl, Int.fdiv_eq_ediv_of_nonneg _ (by omega)]
theorem fd15 (x : Nat) (h : x < 4294967296) : Go.bits .xor .u32 (x : Int) ((x : Int) / 32768) = ((fold 15 x : Nat) : Int) := xor_u32_div x 15 h
theorem fd13 (x : Nat) (h : x < 4294967296) : Go.bits .xor .u32 (x : Int) ((x : Int) / 8192) = ((fold 13 x : Nat) : Int) := xor_u32_div x 13 h
theorem wu32 {n : Int} : IntKind.u32.wrap n = n % 4294967296 := IntKind.wrap_u32 n
theorem Mix_spec (s n : Int) : fnc Try.prog cfg R 111 [I s, I n] = some (I (mixI s n)) := by
  have h1 := smay_spec s; have h2 := smay_spec n
  rw [fnc_at rfl, body_eq Try.func111 rfl rfl]
  unfold mixI
  cases k1 : isS s
  · rw [k1] at h1; simp [argsσ, Vm.results, h1]
  cases k2 : isS n
  · rw [k1] at h1; rw [k2] at h2; simp [argsσ, Vm.results, h1, h2]
  rw [k1] at h1; rw [k2] at h2
  obtain ⟨a, rfl, ha⟩ := isS_true k1
  obtain ⟨b, rfl, hb⟩ := isS_true k2
  have c1 := fun (n : Int) => cv_ii (n := n) Try.underlying3 Try.underlying143 .i64
  have c2 := fun (n : Int) => cv_ii (n := n) Try.underlying143 Try.underlying3 .u32
  have w1 : IntKind.u32.wrap ((a : Nat) : Int) = a := by rw [wu32]; omega
  have w2 : IntKind.u32.wrap ((b : Nat) : Int) = b := by rw [wu32]; omega
  have g1 : IntKind.u32.wrap (IntKind.u32.wrap ((b : Int) + 1) * 2654435761) = ((G b : Nat) : Int) := by rw [wu32, wu32]; unfold G; omega
  have m1 : ∀ x : Nat, IntKind.u32.wrap ((x : Int) * 2246822507) = ((M x : Nat) : Int) := fun x => by rw [wu32]; unfold M; omega
  have x1 := xor_u32 a (G b) ha (G_lt b)
  have l0 := xor_lt a (G b) ha (G_lt b)
  have l1 := M_lt (fold 15 (a ^^^ G b))
  have l2 := M_lt (fold 15 (M (fold 15 (a ^^^ G b))))
  have f1 := fd15 _ l0; have f2 := fd15 _ l1; have f3 := fd13 _ l2
  have hm : mix a b = fold 13 (M (fold 15 (M (fold 15 (a ^^^ G b))))) := rfl
  have hl := mix_lt a b
  rw [hm] at hl
  have w3 : IntKind.i64.wrap ((fold 13 (M (fold 15 (M (fold 15 (a ^^^ G b))))) : Nat) : Int) = (fold 13 (M (fold 15 (M (fold 15 (a ^^^ G b))))) : Nat) := wr (by omega) (by omega)
  simp only [Bool.and_self, if_true, Int.toNat_natCast, hm]
  generalize e1 : G b = g at *
  generalize e2 : M (fold 15 (a ^^^ g)) = y1 at *
  have m2 := m1 (fold 15 (a ^^^ g)); rw [e2] at m2
  generalize e3 : M (fold 15 y1) = y2 at *
  have m3 := m1 (fold 15 y1); rw [e3] at m3
  have i1 : IntKind.i64.wrap 1 = 1 := by decide
  have i2 : IntKind.i64.wrap 2 = 2 := by decide
  simp [argsσ, Vm.results, h1, h2, c1, c2, w1, w2, g1, bin_xor, x1, shr15, shr13, Wloop, i1, i2, f1, f2, f3, m2, m3, w3]
theorem sof_spec (s w k : Int) : fnc Try.prog cfg R 104 [I s, I w, I k] = some (.tup [I (mixI (mixI s w) k), .bool (isS s && isS k)]) := by
  have h1 := Mix_spec s w; have h2 := Mix_spec (mixI s w) k; have h3 := smay_spec s; have h4 := smay_spec k
  rw [fnc_at rfl, body_eq Try.func104 rfl rfl]
  cases k1 : isS s <;> rw [k1] at h3 <;> simp [argsσ, Vm.results, h1, h2, h3, h4]
theorem mixI_nat {a b : Nat} (ha : a < 4294967296) (hb : b < 4294967296) : mixI a b = ((mix a b : Nat) : Int) := by
  have h1 := isS_nat ha; have h2 := isS_nat hb
  unfold mixI
  rw [h1, h2, Int.toNat_natCast, Int.toNat_natCast]
  exact if_pos rfl
theorem mixI_mix {a b c : Nat} (ha : a < 4294967296) (hb : b < 4294967296) (hc : c < 4294967296) : mixI (mixI a b) c = ((mix (mix a b) c : Nat) : Int) := by
  rw [mixI_nat ha hb, mixI_nat (mix_lt a b) hc]
theorem childI_nat {a b : Nat} (ha : a < 4294967296) (hb : b < 4294967296) : childI a b = ((mix (mix a 1) b : Nat) : Int) := by
  have h1 := isS_nat ha; have h2 := isS_nat hb
  unfold childI child
  rw [h1, h2, Int.toNat_natCast, Int.toNat_natCast]
  exact if_pos rfl
theorem Child_spec (s k : Int) : fnc Try.prog cfg R 86 [I s, I k] = some (I (childI s k)) := by
  have h1 := sof_spec s 1 k
  rw [fnc_at rfl, body_eq Try.func86 rfl rfl]
  cases k1 : (isS s && isS k)
  · have e : childI s k = 0 := by unfold childI; rw [k1]; rfl
    rw [e]
    rw [k1] at h1; simp [argsσ, Vm.results, h1]
  · have h := k1
    simp only [Bool.and_eq_true] at h
    obtain ⟨a, rfl, ha⟩ := isS_true h.1
    obtain ⟨b, rfl, hb⟩ := isS_true h.2
    rw [childI_nat ha hb]
    have e := mixI_mix ha (show 1 < 4294967296 by decide) hb
    rw [show ((1 : Nat) : Int) = 1 from rfl] at e
    rw [k1, e] at h1
    generalize mix (mix a 1) b = m at *
    simp [argsσ, Vm.results, h1]
def drawS (s k : Int) : Vl := ⟨(drawI s k).1, (drawI s k).2⟩
theorem drawS_nat {a b : Nat} (ha : a < 4294967296) (hb : b < 4294967296) : drawS a b = ofG (mix (mix a 2) b : Nat) (((mix (mix a 2) b : Nat) : Int) / 65536) := by
  have h1 := isS_nat ha; have h2 := isS_nat hb
  unfold drawS drawI
  rw [h1, h2, Int.toNat_natCast, Int.toNat_natCast]
  generalize mix (mix a 2) b = m
  simp [ofG]
theorem Draw_spec (s k : Int) : fnc Try.prog cfg R 94 [I s, I k] = some (encV (drawS s k)) := by
  have h1 := sof_spec s 2 k
  rw [fnc_at rfl, body_eq Try.func94 rfl rfl]
  cases k1 : (isS s && isS k)
  · have e : drawS s k = ⟨0, 0⟩ := by unfold drawS drawI; rw [k1]; rfl
    rw [e]
    rw [k1] at h1; simp [argsσ, Vm.results, h1]
  · have h := k1
    simp only [Bool.and_eq_true] at h
    obtain ⟨a, rfl, ha⟩ := isS_true h.1
    obtain ⟨b, rfl, hb⟩ := isS_true h.2
    rw [drawS_nat ha hb]
    have e := mixI_mix ha (show 2 < 4294967296 by decide) hb
    rw [show ((2 : Nat) : Int) = 2 from rfl] at e
    rw [k1, e] at h1
    generalize mix (mix a 2) b = m at *
    have h2 := Of_spec m ((m : Int) / 65536)
    simp [argsσ, Vm.results, h1, shr16, h2]
end Go.Proofs.YtlpadffinfijgaaW.Rg
