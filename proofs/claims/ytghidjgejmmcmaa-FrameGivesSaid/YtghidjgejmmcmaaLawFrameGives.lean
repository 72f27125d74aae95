import Derived.Test.YtghidjgejmmcmaaRows
import Derived.Test.YtghidjgejmmcmaaVmD9b
import Derived.Test.YtghidjgejmmcmaaVmL9b
import Derived.WalkKit
import Derived.ProofKit
import Derived.OpenShut
import Derived.SizedLaws
namespace Go.Proofs.Ytghidjgejmmcmaa.frameGives
open Go Go.Proofs Go.ChangeShapes Go.WideShapes Go.ChangeAt Go.RowKit
open Go.Proofs.YtghidjgejmmcmaaW.Vm Go.Proofs.YtghidjgejmmcmaaW.Rg
set_option linter.unusedVariables false
theorem own : ownKnob Try.prog.godebug = none := by kernel_rfl
theorem laidOut : laidOutB Try.prog = true := by kernel_rfl
set_option maxRecDepth 100000 in
theorem plain (xs : List D) (h : HasAll Try.prog 6 [40, 56, 57] xs) : ∃ k, fnc Try.prog cfg (exec Try.prog cfg k) 5 xs = some (.bool true) := by
  obtain ⟨ds, _, rfl, h1, es, _, rfl, h2, gs, _, rfl, h3, rfl⟩ := h
  obtain ⟨f, a, b, z, e, ha, hb', hz', _, _, _⟩ := dec_frame (k := 0) h1
  obtain ⟨x, y, e2⟩ := dec_two (k := 4) h2
  obtain ⟨o, o', e3⟩ := dec_outs2 (k := 2) h3
  rw [e, e2, e3]
  exact fnc_k (gives9_law f a b z ha hb' hz' x y o o')
set_option maxRecDepth 100000 in
theorem lifted (os : Os) (started : os.Started) (H : Type) (enc : TypeId × Value → H) :
    ReturnsInHanded {} Try.checked os 5 .any (Rows.frameGivesSpec.pre6 enc Try.prog Try.f5 Rows.frameGivesRow.domain false) (Rows.frameGivesSpec.post enc Try.prog Try.f5 false true false false) := by
  refine returnsInHanded_of_change_sized (C := Try.checked) own started (by kernel_rfl) Try.func5
    (ChangeSpec.witness6 (enc := enc) (C := Try.checked) false ⟨#[], #[.agg #[.int .i64 0, .int .i64 0, .slice none 0 0, .slice none 0 0, .slice none 0 0, .int .i64 0, .int .i64 0, .int .i64 0, .int .i64 0, .int .i64 0, .int .i64 0, .int .i64 0, .int .i64 0, .int .i64 0, .int .i64 0, .int .i64 0], .agg #[.int .i64 0, .int .i64 0], .agg #[.int .i64 0, .int .i64 0, .int .i64 0, .int .i64 0, .int .i64 0, .int .i64 0]], []⟩ 8 (by kernel_rfl) (by kernel_rfl) (by kernel_rfl) (by kernel_rfl)) ?_
  intro W base args ds gs before hval hW _ hsz _
  exact law_calls (K := 6) (n := 3) (bt := 4) laidOut (by kernel_rfl) rfl rfl Try.underlying4 rfl (fun ds h => by match ds, h with | [_, _, _], _ => rfl) ext_ok (by kernel_rfl) plain hval hW hsz
theorem over : Rows.frameGivesRow.holds Try.pinned (OpenSpec.ofChange Rows.frameGivesSpec) :=
  OpenClaim.holds_of_wide 5 Try.f5 rfl rfl rfl rfl rfl rfl rfl ⟨rfl, rfl, rfl, rfl, rfl⟩ rfl rfl rfl rfl rfl (by kernel_rfl) Try.func5 (by kernel_rfl)
    (of_decide_eq_true (by kernel_rfl)) (by unfold Func.isWrapper; first | (rw [if_pos (by decide +kernel)]; kernel_rfl) | (rw [if_neg (by decide +kernel)]; exact ⟨rfl, rfl⟩))
    (fun os started H enc _ => lifted os started H enc)
theorem proved : Rows.FrameGivesSaid := over
#print axioms proved
end Go.Proofs.Ytghidjgejmmcmaa.frameGives
namespace Go.Proofs.Ytghidjgejmmcmaa
/-- The row, under a short name, for the claim. -/
theorem frameGives_holds : Rows.FrameGivesSaid := frameGives.proved
end Go.Proofs.Ytghidjgejmmcmaa
