/- SeqFuel. No conditions. -/
import Derived.Test.YtlpadffinfijgaaVmQL0
set_option linter.unusedVariables false
set_option linter.unusedSimpArgs false
set_option maxRecDepth 10000
namespace Go.Proofs.YtlpadffinfijgaaW.Rg
open Go.Proofs.YtlpadffinfijgaaW.Vm Go.Proofs.YtlpadffinfijgaaW.Md
open Go Go.Proofs
set_option maxHeartbeats 2000000 in
theorem fuel10_law (p : Option (List Fu)) (a : Option (List Vl)) (s n m : Int) : fnc Try.prog cfgE RE 3 [.agg [encProg p, encL 2 encV a, I s], I n, I m] = some (.bool true) := by
  have hS := small10_spec p a s
  rw [fnc_at (cfgE_ext rfl), body_eq Try.func3 rfl rfl]
  cases k1 : (small (p.getD []) 300 && decide ((a.getD []).length ≤ 40))
  · rw [k1] at hS
    simp [argsσ, Vm.results, hS, fixed10, -getElem?_pos]
  rw [k1] at hS
  cases k2 : decide (3000 < n)
  case true => simp [argsσ, Vm.results, hS, fixed10, k2, of_decide_eq_true k2, -getElem?_pos]
  cases k3 : decide (3000 < m)
  case true => simp [argsσ, Vm.results, hS, fixed10, k2, of_decide_eq_false k2, k3, of_decide_eq_true k3, -getElem?_pos]
  simp only [Bool.and_eq_true, decide_eq_true_eq] at k1
  have hl := small_len k1.1
  have hl63 : (p.getD []).length < 2 ^ 63 := by omega
  have ha62 : (a.getD []).length < 2 ^ 62 := by have := k1.2; omega
  have k2' := of_decide_eq_false k2
  have k3' := of_decide_eq_false k3
  rcases ev_cases (p.getD []) (a.getD []) s n with e | ⟨hg, n1, n2, f, hf, S, ⟨hr, e⟩ | ⟨o, q, hr, hq, ho, e⟩⟩
  · have f1 := eval_at hl63 ha62 e
    obtain ⟨o2, c2, e2, h2⟩ : ∃ o c e, evS (p.getD []) (a.getD []) s m = (o, c, e) := ⟨_, _, _, rfl⟩
    have f2 := eval_at hl63 ha62 h2
    simp [argsσ, Vm.results, hS, fixed10, k2, k2', k3, k3', f1, f2, o0, v0, -getElem?_pos]
  · have f1 := eval_at hl63 ha62 e
    obtain ⟨o2, c2, e2, h2⟩ : ∃ o c e, evS (p.getD []) (a.getD []) s m = (o, c, e) := ⟨_, _, _, rfl⟩
    have f2 := eval_at hl63 ha62 h2
    have key : e2 ≠ 0 ∨ n < m := by
      by_cases h0 : e2 = 0
      · subst h0
        have hm1 : 1 ≤ m := by
          rcases ev_cases (p.getD []) (a.getD []) s m with e' | ⟨_, n1', _⟩
          · rw [h2] at e'; cases e'
          · omega
        have h2' : evS (p.getD []) (a.getD []) s ((m.toNat : Nat) : Int) = (o2, c2, 0) := by rw [show ((m.toNat : Nat) : Int) = m by omega]; exact h2
        obtain ⟨j1, j2, j3, j4⟩ := ev_more h2'
        refine .inr ?_
        by_cases hlt : n < m
        · exact hlt
        · have := j3 n.toNat (by omega) (by omega)
          rw [show ((n.toNat : Nat) : Int) = n by omega, e] at this
          cases this
      · exact .inl h0
    cases c0 : decide (e2 = 0)
    · simp [argsσ, Vm.results, hS, fixed10, k2, k2', k3, k3', f1, f2, o0, v0, c0, of_decide_eq_false c0, -getElem?_pos]
    · have e0 := of_decide_eq_true c0
      have hlt : n < m := by rcases key with h | h; · exact absurd e0 h
                             · exact h
      simp [argsσ, Vm.results, hS, fixed10, k2, k2', k3, k3', f1, f2, o0, v0, c0, e0, hlt, -getElem?_pos]
  · obtain ⟨k, rfl⟩ : ∃ k : Nat, n = k := ⟨n.toNat, by omega⟩
    obtain ⟨c, hc⟩ : ∃ c, c = (k : Int).toNat - q := ⟨_, rfl⟩
    rw [← hc] at e
    have f1 := eval_at hl63 ha62 e
    obtain ⟨j1, j2, j3, j4⟩ := ev_more e
    have f3 := eval_at hl63 ha62 (j3 c (by omega) (by omega))
    have w1 : IntKind.i64.wrap ((c : Int) - 1) = (c : Int) - 1 := wr (by omega) (by omega)
    have d1 : decide ((c : Int) < 1) = false := df (by omega)
    have d1' : ¬ ((c : Int) < 1) := by omega
    have d2 : decide ((k : Int) < (c : Int)) = false := df (by omega)
    have d2' : ¬ ((k : Int) < (c : Int)) := by omega
    have d2'' : ¬ (k < c) := by omega
    have f4 : ∃ e4 : Int, fnc Try.prog cfgE RE 11 [encProg p, encL 2 encV a, I s, I ((c : Int) - 1)] = some (.tup [encO o0, I 0, I e4]) ∧ ((c = 1 ∧ e4 = 1) ∨ (c ≠ 1 ∧ e4 = 100)) := by
      by_cases h1 : c = 1
      · have : evS (p.getD []) (a.getD []) s ((c : Int) - 1) = (o0, 0, 1) := by
          unfold evS
          rw [if_neg (by rw [h1]; simp)]
        exact ⟨1, eval_at hl63 ha62 this, .inl ⟨h1, rfl⟩⟩
      · have := j4 (c - 1) (by omega) (by omega)
        rw [show ((c - 1 : Nat) : Int) = (c : Int) - 1 by omega] at this
        exact ⟨100, eval_at hl63 ha62 this, .inr ⟨h1, rfl⟩⟩
    obtain ⟨e4, f4, h4⟩ := f4
    have f2 : (∃ e2 : Int, (e2 = 1 ∨ (e2 = 100 ∧ m < c)) ∧ fnc Try.prog cfgE RE 11 [encProg p, encL 2 encV a, I s, I m] = some (.tup [encO o0, I 0, I e2])) ∨ fnc Try.prog cfgE RE 11 [encProg p, encL 2 encV a, I s, I m] = some (.tup [encO o, I c, I 0]) := by
      rcases ev_cases (p.getD []) (a.getD []) s m with e' | ⟨_, m1, m2, f', hf', _, ⟨_, e'⟩ | ⟨o', q', _, _, _, e'⟩⟩
      · exact .inl ⟨1, .inl rfl, eval_at hl63 ha62 e'⟩
      · refine .inl ⟨100, .inr ⟨rfl, ?_⟩, eval_at hl63 ha62 e'⟩
        by_cases hlt : m < c
        · exact hlt
        · have := j3 m.toNat (by omega) (by omega)
          rw [show ((m.toNat : Nat) : Int) = m by omega, e'] at this
          cases this
      · refine .inr ?_
        obtain ⟨m', rfl⟩ : ∃ m' : Nat, m = m' := ⟨m.toNat, by omega⟩
        by_cases hlt : m' < c
        · have := j4 m' (by omega) hlt
          rw [e'] at this
          have := congrArg (fun x : Ou × Nat × Int => x.2.2) this
          simp at this
        · exact eval_at hl63 ha62 (j3 m' (by omega) (by omega))
    have ee : ∀ x : Int, decide (x = x) = true := fun x => dt rfl
    rcases h4 with ⟨c1, rfl⟩ | ⟨c1, rfl⟩
    · have g1 : decide ((c : Int) = 1) = true := dt (by omega)
      have g1n : decide (c = 1) = true := dt c1
      rcases f2 with ⟨e2, h2 | ⟨h2, h3⟩, f2⟩ | f2
      · subst h2
        simp [argsσ, Vm.results, hS, fixed10, k2, k2', k3, k3', f1, f2, f3, f4, o0, v0, d1, d1', d2, d2', d2'', w1, g1, g1n, -getElem?_pos]
      · subst h2
        have d5 : ¬ ((c : Int) ≤ m) := by omega
        have d6 : decide ((c : Int) ≤ m) = false := df d5
        simp [argsσ, Vm.results, hS, fixed10, k2, k2', k3, k3', f1, f2, f3, f4, o0, v0, d1, d1', d2, d2', d2'', d5, d6, w1, g1, g1n, -getElem?_pos]
      · simp [argsσ, Vm.results, hS, fixed10, k2, k2', k3, k3', f1, f2, f3, f4, o0, v0, d1, d1', d2, d2', d2'', w1, g1, g1n, -getElem?_pos]
    · have g1 : decide ((c : Int) = 1) = false := df (by omega)
      have g1' : ¬ ((c : Int) = 1) := by omega
      have g2 : (1 : Int) < c := by omega
      have g2' : 1 < c := by omega
      have g3 : decide ((1 : Int) < c) = true := dt g2
      rcases f2 with ⟨e2, h2 | ⟨h2, h3⟩, f2⟩ | f2
      · subst h2
        simp [argsσ, Vm.results, hS, fixed10, k2, k2', k3, k3', f1, f2, f3, f4, o0, v0, d1, d1', d2, d2', d2'', w1, g1, g1', g2, g2', g3, c1, -getElem?_pos]
      · subst h2
        have d5 : ¬ ((c : Int) ≤ m) := by omega
        have d6 : decide ((c : Int) ≤ m) = false := df d5
        simp [argsσ, Vm.results, hS, fixed10, k2, k2', k3, k3', f1, f2, f3, f4, o0, v0, d1, d1', d2, d2', d2'', d5, d6, w1, g1, g1', g2, g2', g3, c1, -getElem?_pos]
      · simp [argsσ, Vm.results, hS, fixed10, k2, k2', k3, k3', f1, f2, f3, f4, o0, v0, d1, d1', d2, d2', d2'', w1, g1, g1', g2, g2', g3, c1, -getElem?_pos]
end Go.Proofs.YtlpadffinfijgaaW.Rg
