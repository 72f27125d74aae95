/- OpStacks holds: no operation takes or lays more than two values, nor one more one way than the other. No conditions. -/
import Derived.Test.YtlkmomkpdmmjkaaPOpStacksx3
set_option linter.unusedSimpArgs false
set_option linter.unusedVariables false
namespace Go.Proofs.Ytlkmomkpdmmjkaa.Pure.OpStacksPlain
open Go Go.RowKit Go.Proofs.Ytlkmomkpdmmjkaa.POpStacks Go.Proofs.YtlkmomkpdmmjkaaW.PrintWords Go.Proofs.YtlkmomkpdmmjkaaW.PrintLast

theorem fixed_f : transhumancelaw06_fixed.f 8 = some true := by decide +kernel
theorem num_out {a : Int} (h : ¬ (0 ≤ a ∧ a < 17)) : opNum a = 17 := by unfold opNum; rw [if_neg h]
theorem law : transhumancelaw06_OpStacks.Pure := by
  intro a hw
  clear hw
  refine ⟨8, ?_⟩
  unfold transhumancelaw06_OpStacks.f op_Stack.f
  rw [fixed_f]
  simp only [Option.bind_some, if_true]
  by_cases ha : 0 ≤ a ∧ a < 17
  · obtain ⟨m, rfl, hm, he⟩ := opNum_lt a ha
    rw [he]
    have hx : op_Fields.f (m : Int) = some (opFields m) := by unfold op_Fields.f; rw [he]
    rw [if_neg (by omega), decide_eq_false (by omega), show 8 = 7 + 1 from rfl, transhumancelaw06_OpStacks.j0, if_neg (by decide), hx]
    clear hx he ha
    simp only [wrap64]
    revert hm
    revert m
    decide +kernel
  · have hx : op_Fields.f a = some 0 := by unfold op_Fields.f; rw [num_out ha]; rfl
    have hj : transhumancelaw06_OpStacks.j0 (7 + 1) a 0 0 true = some true := by
      rw [transhumancelaw06_OpStacks.j0, if_pos rfl, if_pos rfl, if_pos rfl, hx]; rfl
    rw [num_out ha]
    by_cases h0 : a < 0
    · rw [if_pos h0]; exact hj
    · rw [if_neg h0, decide_eq_true (by omega)]; exact hj

end Go.Proofs.Ytlkmomkpdmmjkaa.Pure.OpStacksPlain
namespace Go.Proofs.Ytlkmomkpdmmjkaa.Pure
theorem OpStacks : Go.Proofs.Ytlkmomkpdmmjkaa.POpStacks.transhumancelaw06_OpStacks.Pure := OpStacksPlain.law
end Go.Proofs.Ytlkmomkpdmmjkaa.Pure
