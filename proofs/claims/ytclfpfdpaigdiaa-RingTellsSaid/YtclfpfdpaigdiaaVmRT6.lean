/- What a ring does is as the document says. No conditions. -/
import Derived.Test.YtclfpfdpaigdiaaVmRT5
import Derived.KernelRfl
set_option linter.unusedVariables false
set_option linter.unusedSimpArgs false
namespace Go.Proofs.YtclfpfdpaigdiaaW.Rg
open Go.Proofs.YtclfpfdpaigdiaaW.Vm
open Go Go.Proofs
theorem bin_eqb (x y a b) : binD Try.prog .eql 4 x y (.bool a) (.bool b) = some (.bool (a == b)) := by
  simp [binD, scal, eqGuard, binOp, semPure, bind, Sem.bind, pure, ofVal1, Op.equal]
  cases a <;> cases b <;> kernel_rfl
theorem ix0 (id ver : Nat) : indexAddrD Try.prog 25 (.ptr id ver 0 0) (.int .i64 0) = some (.ptr id ver 0 0) := by
  unfold indexAddrD; rw [Try.underlying25]; rfl
theorem ix1 (id ver : Nat) : indexAddrD Try.prog 25 (.ptr id ver 0 0) (.int .i64 1) = some (.ptr id ver 0 1) := by
  unfold indexAddrD; rw [Try.underlying25]; rfl
theorem eq_ref (s t : Operand) (x y : Ref) : binD Try.prog .eql 33 s t (encRef x) (encRef y) = some (.bool (decide (x = y))) := by
  obtain ⟨a, b⟩ := x
  obtain ⟨c, d⟩ := y
  simp [binD, scal, eqD, ft33, scalsEq, scalEq]
  by_cases h1 : a = c <;> by_cases h2 : b = d <;> simp [h1, h2]
theorem eq_ref1 (s t) (x : Ref) : binD Try.prog .eql 33 s t (.agg [I x.at_, I x.gen]) (.agg [I x.at_, I x.gen]) = some (.bool true) := by
  rw [eq_ref s t x x]; simp
theorem tells_law (r : Ring) (b : Option (List Ref)) (n m : Int) : fnc Try.prog cfg R 3 [encRing r, encS b, .agg [I n, I m]] = some (.bool true) := by
  have hs := small_spec r
  rw [fnc_eq cfg_ext, body_eq Try.func3 rfl rfl]
  cases c1 : decide (r.l.length ≤ 60) with
  | false => rw [c1] at hs; simp [argsσ, Vm.results, hs, fixed_ok]
  | true =>
    rw [c1] at hs
    cases c2 : decide ((20 : Int) < ((b.getD []).length : Int)) with
    | true => simp [argsσ, Vm.results, hs, fixed_ok, c2]
    | false =>
      have c2' : decide (20 < (b.getD []).length) = false := df (by have := of_decide_eq_false c2; omega)
      have hl : r.l.length < 2 ^ 62 := by have := of_decide_eq_true c1; omega
      have hb : (b.getD []).length < 2 ^ 62 := by have := of_decide_eq_false c2; omega
      obtain ⟨a1, e1, l1, p1, p2⟩ := push_both r hl b hb
      obtain ⟨a2, x2, w2, l2, p3, p4⟩ := pop_both r hl
      obtain ⟨a3, x3, w3, l3, p5, p6⟩ := steal_both r hl
      obtain ⟨a4, u4, v4, l4, k4, g4, p7, p8⟩ := half_both r hl
      obtain ⟨a5, w5, l5, p9, p10⟩ := new_both n m
      obtain ⟨u6, v6, k6, g6, p11, p12⟩ := items_both r hl
      have m1 := may_spec r hl
      have m2 := rmay_spec r
      have s1 := same_self a1 l1
      have s2 := same_self a2 l2
      have s3 := same_self a3 l3
      have s4 := same_self a4 l4
      have s5 := same_self a5 l5
      have t4 := refs_spec u4 v4 k4
      have t6 := refs_spec u6 v6 k6
      rw [dt g4] at t4
      rw [dt g6] at t6
      have hd := dr3_13
      simp [opsAt, opsIn, Try.f3] at hd
      have hdw := Wdraw0 hd
      clear hd
      simp [argsσ, Vm.results, hs, c2, c2', fixed_ok, p1, p2, p3, p4, p5, p6, p7, p8, p9, p10, p11, p12, m1, m2, s1, s2, s3, s4, s5, t4, t6, hdw, retK_some, bin_eqb, ix0, ix1, eq_ref1]
end Go.Proofs.YtclfpfdpaigdiaaW.Rg
