import Derived.Test.YtlpadffinfijgaaRows
import Derived.Test.YtlpadffinfijgaaVmDQ
import Derived.Test.YtlpadffinfijgaaVmQL6
import Derived.WalkKit
import Derived.ProofKit
import Derived.OpenShut
import Derived.SizedLaws
namespace Go.Proofs.Ytlpadffinfijgaa.seqWraps
open Go Go.Proofs Go.ChangeShapes Go.WideShapes Go.ChangeAt Go.RowKit
open Go.Proofs.YtlpadffinfijgaaW.Vm Go.Proofs.YtlpadffinfijgaaW.Rg
set_option linter.unusedVariables false
theorem own : ownKnob Try.prog.godebug = none := by kernel_rfl
theorem laidOut : laidOutB Try.prog = true := by kernel_rfl
set_option maxRecDepth 100000 in
theorem plain (xs : List D) (h : HasAll Try.prog 10 [26] xs) : ∃ k, fnc Try.prog cfgE (exec Try.prog cfgE k) 8 xs = some (.bool true) := by
  obtain ⟨ds, _, rfl, h1, rfl⟩ := h
  obtain ⟨p, a, s, e, hb, hz, ha⟩ := dec_input (k := 4) h1
  rw [e]
  exact fnc_k (wraps10_law p a s hb)
set_option maxRecDepth 100000 in
theorem lifted (os : Os) (started : os.Started) (H : Type) (enc : TypeId × Value → H) :
    ReturnsInHanded {} Try.checked os 8 .any (Rows.seqWrapsSpec.pre6 enc Try.prog Try.f8 Rows.seqWrapsRow.domain false) (Rows.seqWrapsSpec.post enc Try.prog Try.f8 false true false false) := by
  refine returnsInHanded_of_change_sized (C := Try.checked) own started (by kernel_rfl) Try.func8
    (ChangeSpec.witness6 (enc := enc) (C := Try.checked) false ⟨#[], #[.agg #[.slice none 0 0, .slice none 0 0, .int .i64 0]], []⟩ 8 (by kernel_rfl) (by kernel_rfl) (by kernel_rfl) (by kernel_rfl)) ?_
  intro W base args ds gs before hval hW _ hsz _
  exact law_calls (K := 10) (n := 1) (bt := 4) laidOut (by kernel_rfl) rfl rfl Try.underlying4 rfl (fun ds h => by match ds, h with | [_], _ => rfl) fitE.ext (by kernel_rfl) plain hval hW hsz
theorem over : Rows.seqWrapsRow.holds Try.pinned (OpenSpec.ofChange Rows.seqWrapsSpec) :=
  OpenClaim.holds_of_wide 8 Try.f8 rfl rfl rfl rfl rfl rfl rfl ⟨rfl, rfl, rfl, rfl, rfl⟩ rfl rfl rfl rfl rfl (by kernel_rfl) Try.func8 (by kernel_rfl)
    (of_decide_eq_true (by kernel_rfl)) (by unfold Func.isWrapper; first | (rw [if_pos (by decide +kernel)]; kernel_rfl) | (rw [if_neg (by decide +kernel)]; exact ⟨rfl, rfl⟩))
    (fun os started H enc _ => lifted os started H enc)
theorem proved : Rows.SeqWrapsSaid := over
#print axioms proved
end Go.Proofs.Ytlpadffinfijgaa.seqWraps
namespace Go.Proofs.Ytlpadffinfijgaa
/-- The row, under a short name, for the claim. -/
theorem seqWraps_holds : Rows.SeqWrapsSaid := seqWraps.proved
end Go.Proofs.Ytlpadffinfijgaa
