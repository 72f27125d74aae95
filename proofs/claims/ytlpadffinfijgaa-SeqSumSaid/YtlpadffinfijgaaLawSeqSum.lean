import Derived.Test.YtlpadffinfijgaaRows
import Derived.Test.YtlpadffinfijgaaVmDQ
import Derived.Test.YtlpadffinfijgaaVmQLS
import Derived.WalkKit
import Derived.ProofKit
import Derived.OpenShut
import Derived.SizedLaws
namespace Go.Proofs.Ytlpadffinfijgaa.seqSum
open Go Go.Proofs Go.ChangeShapes Go.WideShapes Go.ChangeAt Go.RowKit
open Go.Proofs.YtlpadffinfijgaaW.Vm Go.Proofs.YtlpadffinfijgaaW.Rg
set_option linter.unusedVariables false
theorem own : ownKnob Try.prog.godebug = none := by kernel_rfl
theorem laidOut : laidOutB Try.prog = true := by kernel_rfl
set_option maxRecDepth 100000 in
theorem plain (xs : List D) (h : HasAll Try.prog 10 [41, 30] xs) : ∃ k, fnc Try.prog cfgS (exec Try.prog cfgS k) 5 xs = some (.bool true) := by
  obtain ⟨ds, _, rfl, h1, es, _, rfl, h2, rfl⟩ := h
  obtain ⟨f, e1, _, hf⟩ := dec_func (k := 6) h1
  obtain ⟨v, rfl⟩ := dec_vlc (k := 8) h2
  rw [e1, toD_val]
  exact sum10_law f v (by omega)
set_option maxRecDepth 100000 in
theorem lifted (os : Os) (started : os.Started) (H : Type) (enc : TypeId × Value → H) :
    ReturnsInHanded {} Try.checked os 5 .any (Rows.seqSumSpec.pre6 enc Try.prog Try.f5 Rows.seqSumRow.domain false) (Rows.seqSumSpec.post enc Try.prog Try.f5 false true false false) := by
  refine returnsInHanded_of_change_sized (C := Try.checked) own started (by kernel_rfl) Try.func5
    (ChangeSpec.witness6 (enc := enc) (C := Try.checked) false ⟨#[], #[.agg #[.int .i64 0, .int .i64 0, .int .i64 0, .slice none 0 0], .agg #[.int .i64 0, .int .i64 0]], []⟩ 8 (by kernel_rfl) (by kernel_rfl) (by kernel_rfl) (by kernel_rfl)) ?_
  intro W base args ds gs before hval hW _ hsz _
  exact law_calls (K := 10) (n := 2) (bt := 4) laidOut (by kernel_rfl) rfl rfl Try.underlying4 rfl (fun ds h => by match ds, h with | [_, _], _ => rfl) extS (by kernel_rfl) plain hval hW hsz
theorem over : Rows.seqSumRow.holds Try.pinned (OpenSpec.ofChange Rows.seqSumSpec) :=
  OpenClaim.holds_of_wide 5 Try.f5 rfl rfl rfl rfl rfl rfl rfl ⟨rfl, rfl, rfl, rfl, rfl⟩ rfl rfl rfl rfl rfl (by kernel_rfl) Try.func5 (by kernel_rfl)
    (of_decide_eq_true (by kernel_rfl)) (by unfold Func.isWrapper; first | (rw [if_pos (by decide +kernel)]; kernel_rfl) | (rw [if_neg (by decide +kernel)]; exact ⟨rfl, rfl⟩))
    (fun os started H enc _ => lifted os started H enc)
theorem proved : Rows.SeqSumSaid := over
#print axioms proved
end Go.Proofs.Ytlpadffinfijgaa.seqSum
namespace Go.Proofs.Ytlpadffinfijgaa
/-- The row, under a short name, for the claim. -/
theorem seqSum_holds : Rows.SeqSumSaid := seqSum.proved
end Go.Proofs.Ytlpadffinfijgaa
