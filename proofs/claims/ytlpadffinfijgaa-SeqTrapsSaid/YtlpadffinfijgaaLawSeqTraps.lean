import Derived.Test.YtlpadffinfijgaaRows
import Derived.Test.YtlpadffinfijgaaVmDQ
import Derived.Test.YtlpadffinfijgaaVmTS7
import Derived.WalkKit
import Derived.ProofKit
import Derived.OpenShut
import Derived.SizedLaws
namespace Go.Proofs.Ytlpadffinfijgaa.seqTraps
open Go Go.Proofs Go.ChangeShapes Go.WideShapes Go.ChangeAt Go.RowKit
open Go.Proofs.YtlpadffinfijgaaW.Vm Go.Proofs.YtlpadffinfijgaaW.Rg
set_option linter.unusedVariables false
theorem own : ownKnob Try.prog.godebug = none := by kernel_rfl
theorem laidOut : laidOutB Try.prog = true := by kernel_rfl
set_option maxRecDepth 100000 in
theorem plain (xs : List D) (h : HasAll Try.prog 10 [3, 3, 3] xs) : ∃ k, fnc Try.prog cfgE (exec Try.prog cfgE k) 6 xs = some (.bool true) := by
  obtain ⟨ds, _, rfl, h1, es, _, rfl, h2, gs, _, rfl, h3, rfl⟩ := h
  obtain ⟨a, rfl, _⟩ := dec_int h1
  obtain ⟨b, rfl, _⟩ := dec_int h2
  obtain ⟨n, rfl, _⟩ := dec_int h3
  rw [toD_int, toD_int, toD_int]
  exact fnc_k (traps10_law a b n)
set_option maxRecDepth 100000 in
theorem lifted (os : Os) (started : os.Started) (H : Type) (enc : TypeId × Value → H) :
    ReturnsInHanded {} Try.checked os 6 .any (Rows.seqTrapsSpec.pre6 enc Try.prog Try.f6 Rows.seqTrapsRow.domain false) (Rows.seqTrapsSpec.post enc Try.prog Try.f6 false true false false) := by
  refine returnsInHanded_of_change_sized (C := Try.checked) own started (by kernel_rfl) Try.func6
    (ChangeSpec.witness6 (enc := enc) (C := Try.checked) false ⟨#[], #[.int .i64 0, .int .i64 0, .int .i64 0], []⟩ 8 (by kernel_rfl) (by kernel_rfl) (by kernel_rfl) (by kernel_rfl)) ?_
  intro W base args ds gs before hval hW _ hsz _
  exact law_calls (K := 10) (n := 3) (bt := 4) laidOut (by kernel_rfl) rfl rfl Try.underlying4 rfl (fun ds h => by match ds, h with | [_, _, _], _ => rfl) fitE.ext (by kernel_rfl) plain hval hW hsz
theorem over : Rows.seqTrapsRow.holds Try.pinned (OpenSpec.ofChange Rows.seqTrapsSpec) :=
  OpenClaim.holds_of_wide 6 Try.f6 rfl rfl rfl rfl rfl rfl rfl ⟨rfl, rfl, rfl, rfl, rfl⟩ rfl rfl rfl rfl rfl (by kernel_rfl) Try.func6 (by kernel_rfl)
    (of_decide_eq_true (by kernel_rfl)) (by unfold Func.isWrapper; first | (rw [if_pos (by decide +kernel)]; kernel_rfl) | (rw [if_neg (by decide +kernel)]; exact ⟨rfl, rfl⟩))
    (fun os started H enc _ => lifted os started H enc)
theorem proved : Rows.SeqTrapsSaid := over
#print axioms proved
end Go.Proofs.Ytlpadffinfijgaa.seqTraps
namespace Go.Proofs.Ytlpadffinfijgaa
/-- The row, under a short name, for the claim. -/
theorem seqTraps_holds : Rows.SeqTrapsSaid := seqTraps.proved
end Go.Proofs.Ytlpadffinfijgaa
