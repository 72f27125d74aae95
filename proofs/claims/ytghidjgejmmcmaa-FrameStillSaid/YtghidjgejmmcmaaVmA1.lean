/- Operations: the program's and the document's. No conditions. -/
import Derived.Test.YtghidjgejmmcmaaVmE
set_option linter.unusedVariables false
set_option linter.unusedSimpArgs false
namespace Go.Proofs.YtghidjgejmmcmaaW.Rg
open Go.Proofs.YtghidjgejmmcmaaW.Vm Go.Proofs.YtghidjgejmmcmaaW.Md
open Go Go.Proofs
theorem fin17 {n : Int} (h0 : 0 ≤ n) (h1 : n < 17) : ∃ k : Fin 17, n = (k.val : Int) := ⟨⟨n.toNat, by omega⟩, by simp; omega⟩
theorem out17 {n : Int} (h : ¬ (0 ≤ n ∧ n < 17)) (k : Int) (h0 : 0 ≤ k) (h1 : k < 17) : decide (n = k) = false := decide_eq_false (by omega)
def mostR (n f : Int) : Int := if n = 0 then 250 else if n = 1 ∨ n = 2 then 15 else if n = 10 ∨ n = 11 then 199 else if n = 13 then (if f = 1 then 7 else 15) else if n = 14 then 7 else 255
theorem off_in : ∀ k : Fin 17, beqo (fnc Try.prog cfg (exec Try.prog cfg 60) 89 [I k.val]) (some (I (off6 k.val))) = true := by decide +kernel
theorem on_in : ∀ k : Fin 17, beqo (fnc Try.prog cfg (exec Try.prog cfg 60) 79 [I k.val]) (some (I (on6 k.val))) = true := by decide +kernel
theorem fields_in : ∀ k : Fin 17, beqo (fnc Try.prog cfg (exec Try.prog cfg 60) 87 [I k.val]) (some (I (fields k.val))) = true := by decide +kernel
theorem stack_in : ∀ k : Fin 17, beqo (fnc Try.prog cfg (exec Try.prog cfg 60) 58 [I k.val]) (some (.tup [I (off6 k.val), I (on6 k.val)])) = true := by decide +kernel
theorem spans_in : ∀ k : Fin 17, beqo (fnc Try.prog cfg (exec Try.prog cfg 60) 76 [I k.val]) (some (.tup [.agg [I (leastA k.val), I (mostA k.val)], .agg [I 0, I (mostB k.val)]])) = true := by decide +kernel
theorem off_out {n : Int} (h : ¬ (0 ≤ n ∧ n < 17)) : off6 n = 0 := by unfold off6; rw [if_neg (by omega), if_neg (by omega)]
theorem on_out {n : Int} (h : ¬ (0 ≤ n ∧ n < 17)) : on6 n = 0 := by unfold on6; rw [if_neg (by omega), if_neg (by omega)]
theorem fields_out {n : Int} (h : ¬ (0 ≤ n ∧ n < 17)) : fields n = 0 := by unfold fields; rw [if_neg (by omega), if_neg (by omega)]
theorem off_spec (n : Int) : fnc Try.prog cfg R 89 [I n] = some (I (off6 n)) := by
  by_cases h : 0 ≤ n ∧ n < 17
  · obtain ⟨k, rfl⟩ := fin17 h.1 h.2
    exact eval_k 60 (off_in k)
  · rw [off_out h, fnc_at rfl, body_eq Try.func89 rfl rfl]
    simp [argsσ, Vm.results, out17 h]
theorem on_spec (n : Int) : fnc Try.prog cfg R 79 [I n] = some (I (on6 n)) := by
  by_cases h : 0 ≤ n ∧ n < 17
  · obtain ⟨k, rfl⟩ := fin17 h.1 h.2
    exact eval_k 60 (on_in k)
  · rw [on_out h, fnc_at rfl, body_eq Try.func79 rfl rfl]
    simp [argsσ, Vm.results, out17 h]
theorem fields_spec (n : Int) : fnc Try.prog cfg R 87 [I n] = some (I (fields n)) := by
  by_cases h : 0 ≤ n ∧ n < 17
  · obtain ⟨k, rfl⟩ := fin17 h.1 h.2
    exact eval_k 60 (fields_in k)
  · rw [fields_out h, fnc_at rfl, body_eq Try.func87 rfl rfl]
    simp [argsσ, Vm.results, out17 h]
theorem most_in : ∀ k : Fin 17, ∀ f : Fin 2, beqo (fnc Try.prog cfg (exec Try.prog cfg 60) 88 [I k.val, I f.val]) (some (I (mostR k.val f.val))) = true := by decide +kernel
theorem most_spec (n : Int) (h : 0 ≤ n ∧ n < 17) : fnc Try.prog cfg R 88 [I n, I 0] = some (I (mostR n 0)) ∧ fnc Try.prog cfg R 88 [I n, I 1] = some (I (mostR n 1)) := by
  obtain ⟨k, rfl⟩ := fin17 h.1 h.2
  exact ⟨eval_k 60 (most_in k 0), eval_k 60 (most_in k 1)⟩
theorem spans_spec (n : Int) : fnc Try.prog cfg R 76 [I n] = some (.tup [.agg [I (leastA n), I (mostA n)], .agg [I 0, I (mostB n)]]) := by
  by_cases h : 0 ≤ n ∧ n < 17
  · obtain ⟨k, rfl⟩ := fin17 h.1 h.2
    exact eval_k 60 (spans_in k)
  · have h1 : leastA n = 0 := by unfold leastA; rw [if_neg (by omega)]
    have h2 : mostA n = 0 := by unfold mostA; (repeat' split) <;> omega
    have h3 : mostB n = 0 := by unfold mostB; (repeat' split) <;> omega
    rw [h1, h2, h3, fnc_at rfl, body_eq Try.func76 rfl rfl]
    simp [argsσ, Vm.results, out17 h]
theorem has_spec (a b n : Int) : fnc Try.prog cfg R 77 [.agg [I a, I b], I n] = some (.bool (decide (a ≤ n) && decide (n ≤ b))) := by
  rw [fnc_at rfl, body_eq Try.func77 rfl rfl]
  cases h : decide (a ≤ n) <;> simp [argsσ, Vm.results, h]
theorem opmay_spec (x : Instr) : fnc Try.prog cfg R 50 [encInstr x] = some (.bool (imay x)) := by
  rw [fnc_at rfl, body_eq Try.func50 rfl rfl]
  have hs := spans_spec x.op
  have h1 := has_spec (leastA x.op) (mostA x.op) x.a
  have h2 := has_spec 0 (mostB x.op) x.b
  unfold imay
  cases c1 : decide (0 ≤ x.op)
  · simp [argsσ, Vm.results, hs, c1]
  cases c2 : decide (x.op < 17)
  · simp [argsσ, Vm.results, hs, c1, c2]
  cases c3 : (decide (leastA x.op ≤ x.a) && decide (x.a ≤ mostA x.op))
  · rw [c3] at h1
    simp [argsσ, Vm.results, hs, h1, c1, c2]
    simp at c3
    intro h3 h4
    have := c3 h3
    omega
  · rw [c3] at h1
    simp [argsσ, Vm.results, hs, h1, h2, c1, c2]
    simp only [Bool.and_eq_true] at c3
    simp [c3.1, c3.2]
/-- what the document says of an instruction -/
def imay6 (x : Instr) : Bool :=
  !(decide (x.op < 0) || decide (16 < x.op) || decide (x.a < 0) || decide (x.b < 0) || (decide (fields x.op < 2) && !decide (x.b = 0)) || (decide (fields x.op < 1) && !decide (x.a = 0))) &&
  !(decide (x.op = 16) && decide (x.a < 16)) && ((decide (fields x.op < 1) || decide (x.a ≤ mostR x.op 0)) && (decide (fields x.op < 2) || decide (x.b ≤ mostR x.op 1)))
theorem stack_spec (n : Int) (h : 0 ≤ n ∧ n < 17) : fnc Try.prog cfg R 58 [I n] = some (.tup [I (off6 n), I (on6 n)]) := by
  obtain ⟨k, rfl⟩ := fin17 h.1 h.2
  exact eval_k 60 (stack_in k)
theorem imay6_eq (x : Instr) : imay6 x = imay x := by
  by_cases h : 0 ≤ x.op ∧ x.op < 17
  · have h5 : x.op = 0 ∨ x.op = 1 ∨ x.op = 2 ∨ x.op = 3 ∨ x.op = 4 ∨ x.op = 5 ∨ x.op = 6 ∨ x.op = 7 ∨ x.op = 8 ∨ x.op = 9 ∨ x.op = 10 ∨ x.op = 11 ∨ x.op = 12 ∨ x.op = 13 ∨ x.op = 14 ∨ x.op = 15 ∨ x.op = 16 := by omega
    rw [Bool.eq_iff_iff]
    unfold imay6 imay
    simp only [Bool.and_eq_true, Bool.or_eq_true, Bool.not_eq_true', Bool.or_eq_false_iff, Bool.and_eq_false_iff, decide_eq_true_eq, decide_eq_false_iff_not, Bool.not_eq_false']
    rcases h5 with e | e | e | e | e | e | e | e | e | e | e | e | e | e | e | e | e <;> simp only [e, fields, leastA, mostA, mostB, mostR] <;> simp <;> omega
  · have e1 : imay x = false := by cases hh : imay x with
      | false => rfl
      | true => have := imay_iff.1 hh; omega
    rw [e1]
    unfold imay6
    by_cases h0 : x.op < 0
    · simp [h0]
    · have : 16 < x.op := by omega
      simp [this]
set_option maxHeartbeats 4000000 in
theorem rmay6_spec (x : Instr) : fnc Try.prog cfg R 72 [encInstr x] = some (.bool (imay x)) := by
  rw [← imay6_eq, fnc_at rfl, body_eq Try.func72 rfl rfl]
  have hF := fields_spec x.op
  have hd := dr72_6
  simp [opsAt, opsIn, Try.f72] at hd
  have hdw := Wdraw0 hd
  clear hd
  unfold imay6
  cases c1 : decide (x.op < 0)
  case true => simp [argsσ, Vm.results, hF, c1]
  cases c2 : decide (16 < x.op)
  case true => simp [argsσ, Vm.results, hF, c1, c2]
  have hr : 0 ≤ x.op ∧ x.op < 17 := by have := of_decide_eq_false c1; have := of_decide_eq_false c2; omega
  obtain ⟨m0, m1⟩ := most_spec x.op hr
  generalize mostR x.op 0 = M0 at m0
  generalize mostR x.op 1 = M1 at m1
  generalize fields x.op = F at hF
  cases c3 : decide (x.a < 0)
  case true => simp [argsσ, Vm.results, hF, c1, c2, c3]
  cases c4 : decide (x.b < 0)
  case true => simp [argsσ, Vm.results, hF, c1, c2, c3, c4]
  cases c5 : decide (F < 2) <;> cases c6 : decide (x.b = 0)
  case true.false => simp [argsσ, Vm.results, hF, c1, c2, c3, c4, c5, c6]
  all_goals cases c7 : decide (F < 1) <;> cases c8 : decide (x.a = 0)
  any_goals (case true.false => simp [argsσ, Vm.results, hF, c1, c2, c3, c4, c5, c6, c7, c8])
  all_goals cases c9 : decide (x.op = 16) <;> cases c10 : decide (x.a < 16)
  any_goals (case true.true => simp [argsσ, Vm.results, hF, c1, c2, c3, c4, c5, c6, c7, c8, c9, c10])
  all_goals cases c11 : decide (x.a ≤ M0) <;> simp [argsσ, Vm.results, hF, hdw, m0, m1, c1, c2, c3, c4, c5, c6, c7, c8, c9, c10, c11]
end Go.Proofs.YtghidjgejmmcmaaW.Rg
