/- What the laws of layer 10 use. No conditions. -/
import Derived.Test.YtlpadffinfijgaaVmQF
import Derived.Test.YtlpadffinfijgaaVmFx10
import Derived.Test.YtlpadffinfijgaaVmQA
set_option linter.unusedVariables false
set_option linter.unusedSimpArgs false
set_option maxRecDepth 10000
namespace Go.Proofs.YtlpadffinfijgaaW.Rg
open Go.Proofs.YtlpadffinfijgaaW.Vm Go.Proofs.YtlpadffinfijgaaW.Md
open Go Go.Proofs
attribute [simp] plus_shared plus_lit plus_nomark
@[simp] theorem fnc_nomarkE (run : Run) (f : FuncId) (args : List D) : fnc Try.prog ⟨cfg.shared, cfgE.ext, true, cfg.lit⟩ run f args = fnc Try.prog cfgE run f args := by
  have := fnc_nomark (P := Try.prog) (cfg := cfgE) run f args
  rw [plus_shared, plus_lit] at this
  exact this
theorem drE {ops : Array Oper} {un : List (Nat × Nat)} (h : drawInfo Try.prog cfg ops = some un) : drawInfo Try.prog cfgE ops = some un := by rw [plus_draw]; exact h
/-- one that is told -/
theorem eval_at {p : Option (List Fu)} {a : Option (List Vl)} {s n : Int} (hl : (p.getD []).length < 2 ^ 63) (ha : (a.getD []).length < 2 ^ 62) {o : Ou} {c : Nat} {e : Int} (h : evS (p.getD []) (a.getD []) s n = (o, c, e)) :
    fnc Try.prog cfgE RE 11 [encProg p, encL 2 encV a, I s, I n] = some (.tup [encO o, I c, I e]) := by
  have := eval_spec p a s n hl ha
  rw [h] at this
  exact this
theorem eq_out (s t : Operand) (a b c x y z : Int) : binD Try.prog .eql 32 s t (.agg [I a, I b, I c]) (.agg [I x, I y, I z]) = some (.bool (decide (a = x) && (decide (b = y) && decide (c = z)))) := by
  simp [binD, scal, eqD, ft32, scalsEq, scalEq]
  by_cases h1 : a = x <;> by_cases h2 : b = y <;> by_cases h3 : c = z <;> simp [h1, h2, h3]
theorem neq_out (s t : Operand) (a b c x y z : Int) : binD Try.prog .neq 32 s t (.agg [I a, I b, I c]) (.agg [I x, I y, I z]) = some (.bool (!(decide (a = x) && (decide (b = y) && decide (c = z))))) := by
  simp [binD, scal, eqD, ft32, scalsEq, scalEq]
  by_cases h1 : a = x <;> by_cases h2 : b = y <;> by_cases h3 : c = z <;> simp [h1, h2, h3]
theorem eq_vl (s t : Operand) (a b x y : Int) : binD Try.prog .eql 30 s t (.agg [I a, I b]) (.agg [I x, I y]) = some (.bool (decide (a = x) && decide (b = y))) := by
  simp [binD, scal, eqD, ft30, scalsEq, scalEq]
  by_cases h1 : a = x <;> by_cases h2 : b = y <;> simp [h1, h2]
theorem neq_vl (s t : Operand) (a b x y : Int) : binD Try.prog .neq 30 s t (.agg [I a, I b]) (.agg [I x, I y]) = some (.bool (!(decide (a = x) && decide (b = y)))) := by
  simp [binD, scal, eqD, ft30, scalsEq, scalEq]
  by_cases h1 : a = x <;> by_cases h2 : b = y <;> simp [h1, h2]
attribute [simp] eq_out neq_out eq_vl neq_vl
theorem fixed10 : fnc Try.prog cfgE RE 9 [] = some (.bool true) := by
  have a1 := up pa_x1
  have a2 := up pa_x2
  have b1 := eval_at (p := pr_x1) (a := some [⟨3, 1⟩]) (by decide) (by decide) ev_x1
  have b2 := eval_at (p := pr_x1) (a := some [⟨3, 0⟩]) (by decide) (by decide) ev_x1b
  have b3 := eval_at (p := pr_x1) (a := none) (by decide) (by decide) ev_x1c
  have b4 := eval_at (p := pr_x2) (a := none) (by decide) (by decide) ev_x2
  simp only [tx_x1, tx_x2] at a1 a2
  simp only [encL, List.map] at b1 b2 b3 b4
  rw [fnc_at (cfgE_ext rfl), body_eq Try.func9 rfl rfl]
  simp [argsσ, Vm.results, a1, a2, b1, b2, b3, b4, o0, v0, -getElem?_pos]
theorem small10_spec (p : Option (List Fu)) (a : Option (List Vl)) (s : Int) : fnc Try.prog cfgE RE 10 [.agg [encProg p, encL 2 encV a, I s]] = some (.bool (small (p.getD []) 300 && decide ((a.getD []).length ≤ 40))) := by
  have hS := small_spec p 300
  have e2 : decide (((a.getD []).length : Int) ≤ 40) = decide ((a.getD []).length ≤ 40) := decide_eq_decide.2 (by omega)
  refine up ?_
  rw [fnc_at rfl, body_eq Try.func10 rfl rfl]
  cases k1 : small (p.getD []) 300
  · rw [k1] at hS
    simp [argsσ, Vm.results, hS, e2, -getElem?_pos]
  · rw [k1] at hS
    cases k2 : decide ((a.getD []).length ≤ 40)
    · rw [k2] at e2
      have e3 : ¬ ((a.getD []).length : Int) ≤ 40 := of_decide_eq_false e2
      have e4 : ¬ (a.getD []).length ≤ 40 := of_decide_eq_false k2
      simp [argsσ, Vm.results, hS, e2, e3, -getElem?_pos]
    · rw [k2] at e2
      simp [argsσ, Vm.results, hS, e2, -getElem?_pos]
theorem small_len {p : List Fu} {m : Int} (h : small p m = true) : p.length ≤ 20 := by
  unfold small at h
  simp only [Bool.and_eq_true, decide_eq_true_eq] at h
  exact h.1
/-- what is told, by cases -/
theorem ev_cases (p : List Fu) (a : List Vl) (s n : Int) : evS p a s n = (o0, 0, 1) ∨
    (good p = true ∧ 1 ≤ n ∧ n ≤ 100000 ∧ ∃ f, newF p 0 a s = some f ∧ Sf p f ∧
      ((runS p (n.toNat + 1) f n.toNat = none ∧ evS p a s n = (o0, 0, 100)) ∨ ∃ o m, runS p (n.toNat + 1) f n.toNat = some (o, m) ∧ m < n.toNat ∧ OuOk p o ∧ evS p a s n = (o, n.toNat - m, 0))) := by
  by_cases h : (good p && (newF p 0 a s).isSome && decide (1 ≤ n) && decide (n ≤ 100000)) = true
  · have h0 := h
    simp only [Bool.and_eq_true, decide_eq_true_eq] at h
    obtain ⟨⟨⟨hg, hn⟩, n1⟩, n2⟩ := h
    obtain ⟨f, hf⟩ := Option.isSome_iff_exists.1 hn
    have S := new_sf hg hf
    refine .inr ⟨hg, n1, n2, f, hf, S, ?_⟩
    have e : evS p a s n = match runS p (n.toNat + 1) f n.toNat with | some (o, m) => (o, n.toNat - m, 0) | none => (o0, 0, 100) := by
      unfold evS
      rw [if_pos h0, hf]; rfl
    cases hr : runS p (n.toNat + 1) f n.toNat with
    | none => rw [hr] at e; exact .inl ⟨rfl, e⟩
    | some q =>
      obtain ⟨o, m⟩ := q
      rw [hr] at e
      obtain ⟨k1, k2⟩ := runS_ok hg _ _ _ _ _ S hr
      exact .inr ⟨o, m, rfl, k2, k1, e⟩
  · refine .inl ?_
    unfold evS
    rw [if_neg h]
/-- what is told of a frame -/
theorem ev_of {p : List Fu} {a : List Vl} {s : Int} {n : Nat} {f : Fr} (hg : good p = true) (hf : newF p 0 a s = some f) (h1 : 1 ≤ n) (h2 : n ≤ 100000) :
    evS p a s n = match runS p (n + 1) f n with | some (o, m) => (o, n - m, 0) | none => (o0, 0, 100) := by
  unfold evS
  rw [if_pos (by simp only [Bool.and_eq_true, decide_eq_true_eq]; exact ⟨⟨⟨hg, by rw [hf]; rfl⟩, by omega⟩, by omega⟩), hf]; rfl
/-- of a world that ends: with as much as it takes, with less -/
theorem ev_more {p : List Fu} {a : List Vl} {s : Int} {n c : Nat} {o : Ou} (h : evS p a s n = (o, c, 0)) : 1 ≤ c ∧ c ≤ n ∧ (∀ k : Nat, c ≤ k → k ≤ 100000 → evS p a s k = (o, c, 0)) ∧ ∀ k : Nat, 1 ≤ k → k < c → evS p a s k = (o0, 0, 100) := by
  rcases ev_cases p a s n with e | ⟨hg, n1, n2, f, hf, S, ⟨_, e⟩ | ⟨o', m, hr, hm, ho, e⟩⟩
  · rw [h] at e; cases e
  · rw [h] at e; cases e
  · rw [h] at e
    simp only [Int.toNat_natCast] at e hr hm
    cases e
    refine ⟨by omega, by omega, fun k hk hk2 => ?_, fun k h1 hk => ?_⟩
    · rw [ev_of hg hf (by omega) hk2]
      have hG : runS p (n + k + 1) f n = some (o, m) := by rw [← runS_gas hg (n + 1) (n + k + 1) f n S (by omega) (by omega)]; exact hr
      have := runS_enough hG k hk
      rw [runS_gas hg (n + k + 1) (k + 1) f k S (by omega) (by omega)] at this
      rw [this]
      show (o, k - (k - (n - m)), (0 : Int)) = _
      rw [show k - (k - (n - m)) = n - m by omega]
    · rw [ev_of hg hf (by omega) (by omega)]
      have hG : runS p (n + k + 1) f n = some (o, m) := by rw [← runS_gas hg (n + 1) (n + k + 1) f n S (by omega) (by omega)]; exact hr
      have := runS_less hG k hk
      rw [runS_gas hg (n + k + 1) (k + 1) f k S (by omega) (by omega)] at this
      rw [this]
end Go.Proofs.YtlpadffinfijgaaW.Rg
