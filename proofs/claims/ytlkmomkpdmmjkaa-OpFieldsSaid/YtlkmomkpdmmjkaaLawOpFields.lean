import Derived.Test.YtlkmomkpdmmjkaaRows
import Derived.Test.YtlkmomkpdmmjkaaVmO1
import Derived.WalkKit
import Derived.ProofKit
import Derived.OpenShut
import Derived.SizedLaws
namespace Go.Proofs.Ytlkmomkpdmmjkaa.opFields
open Go Go.Proofs Go.ChangeShapes Go.WideShapes Go.ChangeAt Go.RowKit
open Go.Proofs.YtlkmomkpdmmjkaaW.Vm Go.Proofs.YtlkmomkpdmmjkaaW.Rg
set_option linter.unusedVariables false
theorem own : ownKnob Try.prog.godebug = none := by kernel_rfl
theorem laidOut : laidOutB Try.prog = true := by kernel_rfl
set_option maxRecDepth 100000 in
theorem plain (xs : List D) (h : HasAll Try.prog 6 [33] xs) : ∃ k, fnc Try.prog cfg (exec Try.prog cfg k) 10 xs = some (.bool true) := by
  obtain ⟨ds, _, rfl, h1, rfl⟩ := h
  obtain ⟨x, hx⟩ := dec_instr h1
  rw [hx]
  exact fnc_k (opfields_law x)
set_option maxRecDepth 100000 in
theorem lifted (os : Os) (started : os.Started) (H : Type) (enc : TypeId × Value → H) :
    ReturnsInHanded {} Try.checked os 10 .any (Rows.opFieldsSpec.pre6 enc Try.prog Try.f10 Rows.opFieldsRow.domain false) (Rows.opFieldsSpec.post enc Try.prog Try.f10 false true false false) := by
  refine returnsInHanded_of_change_sized (C := Try.checked) own started (by kernel_rfl) Try.func10
    (ChangeSpec.witness6 (enc := enc) (C := Try.checked) false ⟨#[], #[.agg #[.int .i64 0, .int .i64 0, .int .i64 0]], []⟩ 8 (by kernel_rfl) (by kernel_rfl) (by kernel_rfl) (by kernel_rfl)) ?_
  intro W base args ds gs before hval hW _ hsz _
  exact law_calls (K := 6) (n := 1) (bt := 4) laidOut (by kernel_rfl) rfl rfl Try.underlying4 rfl (fun ds h => by match ds, h with | [_], _ => rfl) ext_ok (by kernel_rfl) plain hval hW hsz
theorem over : Rows.opFieldsRow.holds Try.pinned (OpenSpec.ofChange Rows.opFieldsSpec) :=
  OpenClaim.holds_of_wide 10 Try.f10 rfl rfl rfl rfl rfl rfl rfl ⟨rfl, rfl, rfl, rfl, rfl⟩ rfl rfl rfl rfl rfl (by kernel_rfl) Try.func10 (by kernel_rfl)
    (of_decide_eq_true (by kernel_rfl)) (by unfold Func.isWrapper; first | (rw [if_pos (by decide +kernel)]; kernel_rfl) | (rw [if_neg (by decide +kernel)]; exact ⟨rfl, rfl⟩))
    (fun os started H enc _ => lifted os started H enc)
theorem proved : Rows.OpFieldsSaid := over
#print axioms proved
end Go.Proofs.Ytlkmomkpdmmjkaa.opFields
namespace Go.Proofs.Ytlkmomkpdmmjkaa
/-- The row, under a short name, for the claim. -/
theorem opFields_holds : Rows.OpFieldsSaid := opFields.proved
end Go.Proofs.Ytlkmomkpdmmjkaa
