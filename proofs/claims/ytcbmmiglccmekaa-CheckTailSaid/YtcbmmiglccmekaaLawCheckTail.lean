import Derived.Test.YtcbmmiglccmekaaRows
import Derived.Test.YtcbmmiglccmekaaVmD8
import Derived.Test.YtcbmmiglccmekaaVmL8e
import Derived.WalkKit
import Derived.ProofKit
import Derived.OpenShut
import Derived.SizedLaws
namespace Go.Proofs.Ytcbmmiglccmekaa.checkTail
open Go Go.Proofs Go.ChangeShapes Go.WideShapes Go.ChangeAt Go.RowKit
open Go.Proofs.YtcbmmiglccmekaaW.Vm Go.Proofs.YtcbmmiglccmekaaW.Rg
set_option linter.unusedVariables false
theorem own : ownKnob Try.prog.godebug = none := by kernel_rfl
theorem laidOut : laidOutB Try.prog = true := by kernel_rfl
set_option maxRecDepth 100000 in
theorem plain (xs : List D) (h : HasAll Try.prog 6 [23, 3] xs) : ∃ k, fnc Try.prog cfg (exec Try.prog cfg k) 8 xs = some (.bool true) := by
  obtain ⟨ds, _, rfl, h1, es, _, rfl, h2, rfl⟩ := h
  obtain ⟨p, rfl, hb⟩ := dec_prog h1
  obtain ⟨n, rfl, _⟩ := dec_int h2
  rw [toD_prog, toD_int]
  exact fnc_k (tail8_law p hb n)
set_option maxRecDepth 100000 in
theorem lifted (os : Os) (started : os.Started) (H : Type) (enc : TypeId × Value → H) :
    ReturnsInHanded {} Try.checked os 8 .any (Rows.checkTailSpec.pre6 enc Try.prog Try.f8 Rows.checkTailRow.domain false) (Rows.checkTailSpec.post enc Try.prog Try.f8 false true false false) := by
  refine returnsInHanded_of_change_sized (C := Try.checked) own started (by kernel_rfl) Try.func8
    (ChangeSpec.witness6 (enc := enc) (C := Try.checked) false ⟨#[], #[.slice none 0 0, .int .i64 0], []⟩ 8 (by kernel_rfl) (by kernel_rfl) (by kernel_rfl) (by kernel_rfl)) ?_
  intro W base args ds gs before hval hW _ hsz _
  exact law_calls (K := 6) (n := 2) (bt := 4) laidOut (by kernel_rfl) rfl rfl Try.underlying4 rfl (fun ds h => by match ds, h with | [_, _], _ => rfl) ext_ok (by kernel_rfl) plain hval hW hsz
theorem over : Rows.checkTailRow.holds Try.pinned (OpenSpec.ofChange Rows.checkTailSpec) :=
  OpenClaim.holds_of_wide 8 Try.f8 rfl rfl rfl rfl rfl rfl rfl ⟨rfl, rfl, rfl, rfl, rfl⟩ rfl rfl rfl rfl rfl (by kernel_rfl) Try.func8 (by kernel_rfl)
    (of_decide_eq_true (by kernel_rfl)) (by unfold Func.isWrapper; first | (rw [if_pos (by decide +kernel)]; kernel_rfl) | (rw [if_neg (by decide +kernel)]; exact ⟨rfl, rfl⟩))
    (fun os started H enc _ => lifted os started H enc)
theorem proved : Rows.CheckTailSaid := over
#print axioms proved
end Go.Proofs.Ytcbmmiglccmekaa.checkTail
namespace Go.Proofs.Ytcbmmiglccmekaa
/-- The row, under a short name, for the claim. -/
theorem checkTail_holds : Rows.CheckTailSaid := checkTail.proved
end Go.Proofs.Ytcbmmiglccmekaa
