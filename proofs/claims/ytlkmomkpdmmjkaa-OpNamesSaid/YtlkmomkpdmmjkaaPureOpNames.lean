/- OpNames holds: each operation is found by its name, unlike ones have unlike names, no other number has one. No conditions. -/
import Derived.Test.YtlkmomkpdmmjkaaPOpNamesx3
set_option linter.unusedSimpArgs false
set_option linter.unusedVariables false
namespace Go.Proofs.Ytlkmomkpdmmjkaa.Pure.OpNamesPlain
open Go Go.RowKit Go.Proofs.Ytlkmomkpdmmjkaa.POpNames Go.Proofs.YtlkmomkpdmmjkaaW.PrintWords Go.Proofs.YtlkmomkpdmmjkaaW.PrintLast

theorem fixed_f : transhumancelaw06_fixed.f 8 = some true := by decide +kernel
theorem num_out {a : Int} (h : ¬ (0 ≤ a ∧ a < 17)) : opNum a = 17 := by unfold opNum; rw [if_neg h]
theorem names_ne (m : Nat) (hm : m < 17) : ((opName m).toList == (⟨#[]⟩ : ByteArray).toList) = false := by
  revert hm; revert m; decide +kernel
theorem law : transhumancelaw06_OpNames.Pure := by
  intro a b hw0 hw1
  clear hw0 hw1
  refine ⟨8, ?_⟩
  unfold transhumancelaw06_OpNames.f op_Name.f op_Find.f
  rw [fixed_f]
  simp only [Option.bind_some, if_true]
  by_cases ha : 0 ≤ a ∧ a < 17
  · obtain ⟨m, rfl, hm, he⟩ := opNum_lt a ha
    rw [he]
    by_cases hb : 0 ≤ b ∧ b < 17
    · obtain ⟨n, rfl, hn, hf⟩ := opNum_lt b hb
      rw [hf]
      clear he hf ha hb
      revert hn
      revert n
      revert hm
      revert m
      decide +kernel
    · rw [num_out hb]
      have hne := names_ne m hm
      have hab : ¬ (m : Int) = b := fun h => hb (by omega)
      have e17 : opName 17 = ⟨#[]⟩ := rfl
      have t1 : ((((opName m).toList != ([] : List UInt8)) == (decide ((m : Int) < 17))) = true) ∧ ((decide (0 ≤ opFirst (opName m) 17) == (decide ((m : Int) < 17))) = true) ∧ ((if opFirst (opName m) 17 < 0 then 0 else opFirst (opName m) 17) = (m : Int)) := by
        clear he ha hne hab
        revert hm
        revert m
        decide +kernel
      rw [if_pos (by omega), if_pos t1.1, if_pos t1.2.1, if_pos (by omega), if_pos t1.2.2, e17, hne, beq_eq_false_iff_ne.2 hab]
      rfl
  · rw [num_out ha]
    have e1 : opFirst (opName 17) 17 = -1 := by decide +kernel
    have e2 : (opName 17).toList = [] := by decide +kernel
    rw [e1, e2]
    by_cases h0 : 0 ≤ a
    · rw [if_pos h0]
      have h1 : ¬ a < 17 := fun h => ha ⟨h0, h⟩
      rw [decide_eq_false h1, if_pos (by decide), if_pos (by decide), if_neg h1]
    · rw [if_neg h0]
      rfl

end Go.Proofs.Ytlkmomkpdmmjkaa.Pure.OpNamesPlain
namespace Go.Proofs.Ytlkmomkpdmmjkaa.Pure
theorem OpNames : Go.Proofs.Ytlkmomkpdmmjkaa.POpNames.transhumancelaw06_OpNames.Pure := OpNamesPlain.law
end Go.Proofs.Ytlkmomkpdmmjkaa.Pure
