import Derived.Test.YtifmjomfoilnnaaGreatRows
import Derived.Test.YtifmjomfoilnnaaGreatVmWE
import Derived.Test.YtifmjomfoilnnaaGreatVmLW2
import Derived.WalkKit
import Derived.ProofKit
import Derived.OpenShut
import Derived.SizedLaws
namespace Go.Proofs.YtifmjomfoilnnaaGreat.worldReady
open Go Go.Proofs Go.ChangeShapes Go.WideShapes Go.ChangeAt Go.RowKit
open Go.Proofs.YtifmjomfoilnnaaGreatW.Vm Go.Proofs.YtifmjomfoilnnaaGreatW.Rg
set_option linter.unusedVariables false
theorem own : ownKnob Tryz.prog.godebug = none := by kernel_rfl
theorem laidOut : laidOutB Tryz.prog = true := by kernel_rfl
set_option maxRecDepth 100000 in
theorem plain (xs : List D) (h : HasAll Tryz.prog 12 [43, 3] xs) : ∃ k, fnc Tryz.prog cfg (exec Tryz.prog cfg k) 5 xs = some (.bool true) := by
  obtain ⟨ds, _, rfl, h1, es, _, rfl, h2, rfl⟩ := h
  obtain ⟨w, e, ok⟩ := dec_world (k := 2) h1
  obtain ⟨n, rfl, _⟩ := dec_int h2
  rw [e, toD_int]
  exact fnc_k (ready13_law w ok n)
set_option maxRecDepth 100000 in
theorem lifted (os : Os) (started : os.Started) (H : Type) (enc : TypeId × Value → H) :
    ReturnsInHanded {} Tryz.checked os 5 .any (Rows.worldReadySpec.pre6 enc Tryz.prog Tryz.f5 Rows.worldReadyRow.domain false) (Rows.worldReadySpec.post enc Tryz.prog Tryz.f5 false true false false) := by
  refine returnsInHanded_of_change_sized (C := Tryz.checked) own started (by kernel_rfl) Tryz.func5
    (ChangeSpec.witness6 (enc := enc) (C := Tryz.checked) false ⟨#[], #[.agg #[.slice none 0 0, .int .i64 0, .int .i64 0, .int .i64 0, .slice none 0 0, .slice none 0 0, .int .i64 0, .slice none 0 0, .slice none 0 0, .int .i64 0, .int .i64 0, .int .i64 0, .int .i64 0, .int .i64 0, .int .i64 0, .int .i64 0, .int .i64 0, .int .i64 0, .int .i64 0], .int .i64 0], []⟩ 8 (by kernel_rfl) (by kernel_rfl) (by kernel_rfl) (by kernel_rfl)) ?_
  intro W base args ds gs before hval hW _ hsz _
  exact law_calls (K := 12) (n := 2) (bt := 4) laidOut (by kernel_rfl) rfl rfl Tryz.underlying4 rfl (fun ds h => by match ds, h with | [_, _], _ => rfl) ext_ok (by kernel_rfl) plain hval hW hsz
theorem over : Rows.worldReadyRow.holds Tryz.pinned (OpenSpec.ofChange Rows.worldReadySpec) :=
  OpenClaim.holds_of_wide 5 Tryz.f5 rfl rfl rfl rfl rfl rfl rfl ⟨rfl, rfl, rfl, rfl, rfl⟩ rfl rfl rfl rfl rfl (by kernel_rfl) Tryz.func5 (by kernel_rfl)
    (of_decide_eq_true (by kernel_rfl)) (by unfold Func.isWrapper; first | (rw [if_pos (by decide +kernel)]; kernel_rfl) | (rw [if_neg (by decide +kernel)]; exact ⟨rfl, rfl⟩))
    (fun os started H enc _ => lifted os started H enc)
theorem proved : Rows.WorldReadySaid := over
#print axioms proved
end Go.Proofs.YtifmjomfoilnnaaGreat.worldReady
namespace Go.Proofs.YtifmjomfoilnnaaGreat
/-- The row, under a short name, for the claim. -/
theorem worldReady_holds : Rows.WorldReadySaid := worldReady.proved
end Go.Proofs.YtifmjomfoilnnaaGreat
