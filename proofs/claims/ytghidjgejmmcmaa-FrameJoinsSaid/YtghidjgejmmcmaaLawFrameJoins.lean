import Derived.Test.YtghidjgejmmcmaaRows
import Derived.Test.YtghidjgejmmcmaaVmDD
import Derived.Test.YtghidjgejmmcmaaVmL9c
import Derived.WalkKit
import Derived.ProofKit
import Derived.OpenShut
import Derived.SizedLaws
namespace Go.Proofs.Ytghidjgejmmcmaa.frameJoins
open Go Go.Proofs Go.ChangeShapes Go.WideShapes Go.ChangeAt Go.RowKit
open Go.Proofs.YtghidjgejmmcmaaW.Vm Go.Proofs.YtghidjgejmmcmaaW.Rg
set_option linter.unusedVariables false
theorem own : ownKnob Try.prog.godebug = none := by kernel_rfl
theorem laidOut : laidOutB Try.prog = true := by kernel_rfl
set_option maxRecDepth 100000 in
theorem plain (xs : List D) (h : HasAll Try.prog 6 [33, 36] xs) : ∃ k, fnc Try.prog cfg (exec Try.prog cfg k) 6 xs = some (.bool true) := by
  obtain ⟨ds, _, rfl, h1, es, _, rfl, h2, rfl⟩ := h
  obtain ⟨v, rfl⟩ := dec_vlc (k := 4) h1
  obtain ⟨o, rfl⟩ := dec_ouc (k := 3) h2
  rw [toD_val, toD_out]
  exact fnc_k (joins9_law v o)
set_option maxRecDepth 100000 in
theorem lifted (os : Os) (started : os.Started) (H : Type) (enc : TypeId × Value → H) :
    ReturnsInHanded {} Try.checked os 6 .any (Rows.frameJoinsSpec.pre6 enc Try.prog Try.f6 Rows.frameJoinsRow.domain false) (Rows.frameJoinsSpec.post enc Try.prog Try.f6 false true false false) := by
  refine returnsInHanded_of_change_sized (C := Try.checked) own started (by kernel_rfl) Try.func6
    (ChangeSpec.witness6 (enc := enc) (C := Try.checked) false ⟨#[], #[.agg #[.int .i64 0, .int .i64 0], .agg #[.int .i64 0, .int .i64 0, .int .i64 0]], []⟩ 8 (by kernel_rfl) (by kernel_rfl) (by kernel_rfl) (by kernel_rfl)) ?_
  intro W base args ds gs before hval hW _ hsz _
  exact law_calls (K := 6) (n := 2) (bt := 4) laidOut (by kernel_rfl) rfl rfl Try.underlying4 rfl (fun ds h => by match ds, h with | [_, _], _ => rfl) ext_ok (by kernel_rfl) plain hval hW hsz
theorem over : Rows.frameJoinsRow.holds Try.pinned (OpenSpec.ofChange Rows.frameJoinsSpec) :=
  OpenClaim.holds_of_wide 6 Try.f6 rfl rfl rfl rfl rfl rfl rfl ⟨rfl, rfl, rfl, rfl, rfl⟩ rfl rfl rfl rfl rfl (by kernel_rfl) Try.func6 (by kernel_rfl)
    (of_decide_eq_true (by kernel_rfl)) (by unfold Func.isWrapper; first | (rw [if_pos (by decide +kernel)]; kernel_rfl) | (rw [if_neg (by decide +kernel)]; exact ⟨rfl, rfl⟩))
    (fun os started H enc _ => lifted os started H enc)
theorem proved : Rows.FrameJoinsSaid := over
#print axioms proved
end Go.Proofs.Ytghidjgejmmcmaa.frameJoins
namespace Go.Proofs.Ytghidjgejmmcmaa
/-- The row, under a short name, for the claim. -/
theorem frameJoins_holds : Rows.FrameJoinsSaid := frameJoins.proved
end Go.Proofs.Ytghidjgejmmcmaa
