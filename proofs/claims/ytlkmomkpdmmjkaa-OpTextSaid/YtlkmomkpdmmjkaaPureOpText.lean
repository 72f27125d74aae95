/- OpText holds: names are two to five letters, none another one's beginning. No conditions. -/
import Derived.Test.YtlkmomkpdmmjkaaPOpTextx3
set_option linter.unusedSimpArgs false
set_option linter.unusedVariables false
namespace Go.Proofs.Ytlkmomkpdmmjkaa.Pure.OpTextPlain
open Go Go.RowKit Go.Proofs.Ytlkmomkpdmmjkaa.POpText Go.Proofs.YtlkmomkpdmmjkaaW.PrintWords Go.Proofs.YtlkmomkpdmmjkaaW.PrintLast

theorem fixed_f : transhumancelaw06_fixed.f 8 = some true := by decide +kernel
theorem num_out {a : Int} (h : ¬ (0 ≤ a ∧ a < 17)) : opNum a = 17 := by unfold opNum; rw [if_neg h]
theorem table : ∀ m, m < 17 → ∀ n, n < 17 → transhumancelaw06_OpText.j0 20 (m : Nat) (n : Nat) false = some true := by decide +kernel
theorem fixed_g : transhumancelaw06_fixed.f 20 = some true := by decide +kernel
theorem fixed_h : transhumancelaw06_fixed.f 19 = some true := by decide +kernel
theorem law : transhumancelaw06_OpText.Pure := by
  intro a b hw0 hw1
  clear hw0 hw1
  refine ⟨20, ?_⟩
  have t : transhumancelaw06_OpText.j0 20 a b true = some true := by
    rw [show 20 = 19 + 1 from rfl, transhumancelaw06_OpText.j0, if_pos rfl, fixed_h]; rfl
  unfold transhumancelaw06_OpText.f
  rw [fixed_g]
  simp only [Option.bind_some, if_true]
  by_cases h1 : a < 0
  · rw [if_pos h1]; exact t
  · rw [if_neg h1]
    by_cases h2 : a ≥ 17
    · rw [if_pos h2]; exact t
    · rw [if_neg h2]
      by_cases h3 : b < 0
      · rw [if_pos h3]; exact t
      · rw [if_neg h3]
        by_cases h4 : b ≥ 17
        · rw [decide_eq_true h4]; exact t
        · rw [decide_eq_false h4]
          obtain ⟨m, rfl⟩ := Int.eq_ofNat_of_zero_le (by omega : 0 ≤ a)
          obtain ⟨n, rfl⟩ := Int.eq_ofNat_of_zero_le (by omega : 0 ≤ b)
          exact table m (by omega) n (by omega)

end Go.Proofs.Ytlkmomkpdmmjkaa.Pure.OpTextPlain
namespace Go.Proofs.Ytlkmomkpdmmjkaa.Pure
theorem OpText : Go.Proofs.Ytlkmomkpdmmjkaa.POpText.transhumancelaw06_OpText.Pure := OpTextPlain.law
end Go.Proofs.Ytlkmomkpdmmjkaa.Pure
