import Derived.Test.YtcbmmiglccmekaaRows
import Derived.Test.YtcbmmiglccmekaaVmD8
import Derived.Test.YtcbmmiglccmekaaVmL8g
import Derived.WalkKit
import Derived.ProofKit
import Derived.OpenShut
import Derived.SizedLaws
namespace Go.Proofs.Ytcbmmiglccmekaa.checkFields
open Go Go.Proofs Go.ChangeShapes Go.WideShapes Go.ChangeAt Go.RowKit
open Go.Proofs.YtcbmmiglccmekaaW.Vm Go.Proofs.YtcbmmiglccmekaaW.Rg
set_option linter.unusedVariables false
theorem own : ownKnob Try.prog.godebug = none := by kernel_rfl
theorem laidOut : laidOutB Try.prog = true := by kernel_rfl
set_option maxRecDepth 100000 in
theorem plain (xs : List D) (h : HasAll Try.prog 6 [23, 43, 3] xs) : ∃ k, fnc Try.prog cfg (exec Try.prog cfg k) 7 xs = some (.bool true) := by
  obtain ⟨ds, _, rfl, h1, vs, _, rfl, h3, es, _, rfl, h2, rfl⟩ := h
  obtain ⟨p, rfl, hb, hz⟩ := dec_prog2 h1
  obtain ⟨re, im, hv⟩ := dec_value h3
  obtain ⟨n, rfl, _⟩ := dec_int h2
  rw [toD_prog, toD_int, hv]
  exact fnc_k (fields8_law p hb hz re im n)
set_option maxRecDepth 100000 in
theorem lifted (os : Os) (started : os.Started) (H : Type) (enc : TypeId × Value → H) :
    ReturnsInHanded {} Try.checked os 7 .any (Rows.checkFieldsSpec.pre6 enc Try.prog Try.f7 Rows.checkFieldsRow.domain false) (Rows.checkFieldsSpec.post enc Try.prog Try.f7 false true false false) := by
  refine returnsInHanded_of_change_sized (C := Try.checked) own started (by kernel_rfl) Try.func7
    (ChangeSpec.witness6 (enc := enc) (C := Try.checked) false ⟨#[], #[.slice none 0 0, .agg #[.int .i64 0, .int .i64 0], .int .i64 0], []⟩ 8 (by kernel_rfl) (by kernel_rfl) (by kernel_rfl) (by kernel_rfl)) ?_
  intro W base args ds gs before hval hW _ hsz _
  exact law_calls (K := 6) (n := 3) (bt := 4) laidOut (by kernel_rfl) rfl rfl Try.underlying4 rfl (fun ds h => by match ds, h with | [_, _, _], _ => rfl) ext_ok (by kernel_rfl) plain hval hW hsz
theorem over : Rows.checkFieldsRow.holds Try.pinned (OpenSpec.ofChange Rows.checkFieldsSpec) :=
  OpenClaim.holds_of_wide 7 Try.f7 rfl rfl rfl rfl rfl rfl rfl ⟨rfl, rfl, rfl, rfl, rfl⟩ rfl rfl rfl rfl rfl (by kernel_rfl) Try.func7 (by kernel_rfl)
    (of_decide_eq_true (by kernel_rfl)) (by unfold Func.isWrapper; first | (rw [if_pos (by decide +kernel)]; kernel_rfl) | (rw [if_neg (by decide +kernel)]; exact ⟨rfl, rfl⟩))
    (fun os started H enc _ => lifted os started H enc)
theorem proved : Rows.CheckFieldsSaid := over
#print axioms proved
end Go.Proofs.Ytcbmmiglccmekaa.checkFields
namespace Go.Proofs.Ytcbmmiglccmekaa
/-- The row, under a short name, for the claim. -/
theorem checkFields_holds : Rows.CheckFieldsSaid := checkFields.proved
end Go.Proofs.Ytcbmmiglccmekaa
