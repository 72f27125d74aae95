/- The program's values: sums, products, quotients. No conditions. -/
import Derived.Test.YtghidjgejmmcmaaVmG1
set_option linter.unusedVariables false
set_option linter.unusedSimpArgs false
namespace Go.Proofs.YtghidjgejmmcmaaW.Rg
open Go.Proofs.YtghidjgejmmcmaaW.Vm Go.Proofs.YtghidjgejmmcmaaW.Md Go.Proofs.YtghidjgejmmcmaaW.Fl
open Go Go.Proofs
theorem rest_mod (n : Int) : (IntKind.i64.wrap (n.tmod 251 + 251)).tmod 251 = n % 251 := by
  have h := Int.tmod_lt_of_pos n (show (0 : Int) < 251 by decide)
  have h2 : -251 < n.tmod 251 := by
    by_cases h0 : 0 ≤ n
    · have := Int.tmod_nonneg 251 h0; omega
    · have e : n.tmod 251 = -((-n).tmod 251) := by rw [Int.neg_tmod]; omega
      have := Int.tmod_lt_of_pos (-n) (show (0 : Int) < 251 by decide)
      omega
  rw [wr (by omega) (by omega), Int.tmod_eq_emod_of_nonneg (by omega)]
  have e := Int.tmod_add_mul_tdiv n 251
  omega
theorem rest_spec (n : Int) : fnc Try.prog cfg R 52 [I n] = some (I (n % 251)) := by
  rw [fnc_at rfl, body_eq Try.func52 rfl rfl]
  have b1 := bin_rem Try.prog 3 (.tmp 3) (.const (.int .i64 251)) .i64 n 251 (by decide)
  have b2 := bin_rem Try.prog 3 (.tmp 5) (.const (.int .i64 251)) .i64 (IntKind.i64.wrap (n.tmod 251 + 251)) 251 (by decide)
  rw [rest_mod] at b2
  simp [argsσ, Vm.results, b1, b2]
theorem Of_spec (a b : Int) : fnc Try.prog cfg R 66 [I a, I b] = some (encV (ofG a b)) := by
  rw [fnc_at rfl, body_eq Try.func66 rfl rfl]
  have h1 := rest_spec a; have h2 := rest_spec b
  simp [argsσ, Vm.results, h1, h2, ofG]
theorem rng (n : Int) : 0 ≤ n % 251 ∧ n % 251 < 251 := by omega
theorem of_spec (v : Vl) : fnc Try.prog cfg R 83 [encV v] = some (.cpx .f64 (F (v.re % 251)) (F (v.im % 251))) := by
  rw [fnc_at rfl, body_eq Try.func83 rfl rfl]
  have h1 := rest_spec v.re; have h2 := rest_spec v.im
  have r1 := rng v.re; have r2 := rng v.im
  have c1 := conv_if (n := v.re % 251) un3 Try.underlying137 (by omega)
  have c2 := conv_if (n := v.im % 251) un3 Try.underlying137 (by omega)
  have hd := dr83_1
  simp [opsAt, opsIn, Try.f83] at hd
  have hdw := Wdraw0 hd
  clear hd
  simp [argsσ, Vm.results, h1, h2, hdw, c1, c2, ev_cpx, bt_cpx]
theorem value_spec (a b : Int) (ha : a.natAbs < 2 ^ 53) (hb : b.natAbs < 2 ^ 53) : fnc Try.prog cfg R 82 [.cpx .f64 (F a) (F b)] = some (encV (ofG a b)) := by
  rw [fnc_at rfl, body_eq Try.func82 rfl rfl]
  have h1 := Of_spec a b
  have c1 := conv_fi (n := a) Try.underlying137 un3 (toInt_F a ha) ha
  have c2 := conv_fi (n := b) Try.underlying137 un3 (toInt_F b hb) hb
  simp [argsσ, Vm.results, h1, c1, c2, bt_real, bt_imag]
theorem Add_spec (a b : Vl) : fnc Try.prog cfg R 62 [encV a, encV b] = some (encV (addG a b)) := by
  rw [fnc_at rfl, body_eq Try.func62 rfl rfl]
  have h1 := of_spec a; have h2 := of_spec b
  have r1 := rng a.re; have r2 := rng a.im; have r3 := rng b.re; have r4 := rng b.im
  have b1 := fun t x y => bin_cadd (P := Try.prog) t x y r1 r2 r3 r4
  have h3 := value_spec (a.re % 251 + b.re % 251) (a.im % 251 + b.im % 251) (by omega) (by omega)
  have hd := dr62_1
  simp [opsAt, opsIn, Try.f62] at hd
  have hdw := Wdraw hd
  clear hd
  simp [argsσ, Vm.results, h1, h2, h3, hdw, b1, logL, loud, isE, drawChk, addG]
theorem Sub_spec (a b : Vl) : fnc Try.prog cfg R 63 [encV a, encV b] = some (encV (subG a b)) := by
  rw [fnc_at rfl, body_eq Try.func63 rfl rfl]
  have h1 := of_spec a; have h2 := of_spec b
  have r1 := rng a.re; have r2 := rng a.im; have r3 := rng b.re; have r4 := rng b.im
  have b1 := fun t x y => bin_csub (P := Try.prog) t x y r1 r2 r3 r4
  have h3 := value_spec (a.re % 251 - b.re % 251) (a.im % 251 - b.im % 251) (by omega) (by omega)
  have hd := dr63_1
  simp [opsAt, opsIn, Try.f63] at hd
  have hdw := Wdraw hd
  clear hd
  simp [argsσ, Vm.results, h1, h2, h3, hdw, b1, logL, loud, isE, drawChk, subG]
theorem Mul_spec (a b : Vl) : fnc Try.prog cfg R 64 [encV a, encV b] = some (encV (mulG a b)) := by
  rw [fnc_at rfl, body_eq Try.func64 rfl rfl]
  have h1 := of_spec a; have h2 := of_spec b
  have r1 := rng a.re; have r2 := rng a.im; have r3 := rng b.re; have r4 := rng b.im
  have b1 := fun t x y => bin_cmul (P := Try.prog) t x y r1 r2 r3 r4
  have p1 := mul250 r1 r3; have p2 := mul250 r2 r4; have p3 := mul250 r1 r4; have p4 := mul250 r2 r3
  have h3 := value_spec (a.re % 251 * (b.re % 251) - a.im % 251 * (b.im % 251)) (a.re % 251 * (b.im % 251) + a.im % 251 * (b.re % 251)) (by omega) (by omega)
  have hd := dr64_1
  simp [opsAt, opsIn, Try.f64] at hd
  have hdw := Wdraw hd
  clear hd
  simp [argsσ, Vm.results, h1, h2, h3, hdw, b1, logL, loud, isE, drawChk, mulG]
theorem Conj_spec (a : Vl) : fnc Try.prog cfg R 67 [encV a] = some (encV (conjG a)) := by
  rw [fnc_at rfl, body_eq Try.func67 rfl rfl]
  have h1 := of_spec a
  have r1 := rng a.re; have r2 := rng a.im
  obtain ⟨k, hk⟩ := fin251 r2.1 r2.2
  have hn := neg_F k
  rw [← hk] at hn
  have c1 := conv_fi (n := a.re % 251) Try.underlying137 un3 (toInt_F _ (by omega)) (by omega)
  have c2 := conv_fi (n := -(a.im % 251)) Try.underlying137 un3 hn (by omega)
  have h2 := Of_spec (a.re % 251) (-(a.im % 251))
  have h3 : fnc Try.prog cfg R 82 [.cpx .f64 (F (a.re % 251)) (Op.negFloat .f64 (F (a.im % 251)))] = some (encV (ofG (a.re % 251) (-(a.im % 251)))) := by
    rw [fnc_at rfl, body_eq Try.func82 rfl rfl]
    simp [argsσ, Vm.results, h2, c1, c2, bt_real, bt_imag]
  simp [argsσ, Vm.results, h1, h3, op_un, un_neg, scal_flt, bt_real, bt_imag, bt_cpx, conjG]
theorem gmay_spec (v : Vl) : fnc Try.prog cfg R 25 [encV v] = some (.bool v.may) := by
  rw [fnc_at rfl, body_eq Try.func25 rfl rfl]
  have h1 := rest_spec v.re; have h2 := rest_spec v.im
  have hd := dr25_1
  simp [opsAt, opsIn, Try.f25] at hd
  have hdw := Wdraw0 hd
  clear hd
  have e : v.may = (decide (v.re = v.re % 251) && decide (v.im = v.im % 251)) := by
    unfold Vl.may
    rw [Bool.eq_iff_iff]; simp only [Bool.and_eq_true, decide_eq_true_eq]; omega
  rw [e]
  have hq := fun s t => eq_val s t v ⟨v.re % 251, v.im % 251⟩
  have e2 : decide (v = ⟨v.re % 251, v.im % 251⟩) = (decide (v.re = v.re % 251) && decide (v.im = v.im % 251)) := by
    obtain ⟨a, b⟩ := v
    rw [Bool.eq_iff_iff]; simp
  rw [e2] at hq
  simp [argsσ, Vm.results, h1, h2, hdw, hq]
end Go.Proofs.YtghidjgejmmcmaaW.Rg
