import Derived.Test.YtifmjomfoilnnaaGreatRows
import Derived.Test.YtifmjomfoilnnaaGreatVmWE
import Derived.Test.YtifmjomfoilnnaaGreatVmLW4
import Derived.WalkKit
import Derived.ProofKit
import Derived.OpenShut
import Derived.SizedLaws
namespace Go.Proofs.YtifmjomfoilnnaaGreat.worldNew
open Go Go.Proofs Go.ChangeShapes Go.WideShapes Go.ChangeAt Go.RowKit
open Go.Proofs.YtifmjomfoilnnaaGreatW.Vm Go.Proofs.YtifmjomfoilnnaaGreatW.Rg
set_option linter.unusedVariables false
theorem own : ownKnob Tryz.prog.godebug = none := by kernel_rfl
theorem laidOut : laidOutB Tryz.prog = true := by kernel_rfl
set_option maxRecDepth 100000 in
theorem plain (xs : List D) (h : HasAll Tryz.prog 12 [28] xs) : ∃ k, fnc Tryz.prog cfg (exec Tryz.prog cfg k) 4 xs = some (.bool true) := by
  obtain ⟨ds, _, rfl, h1, rfl⟩ := h
  obtain ⟨p, args, s, n, fu, fm, m, e, hb, hz, ha⟩ := dec_start (k := 6) h1
  rw [e]
  exact fnc_k (new13_law p hb hz args ha s n fu fm m)
set_option maxRecDepth 100000 in
theorem lifted (os : Os) (started : os.Started) (H : Type) (enc : TypeId × Value → H) :
    ReturnsInHanded {} Tryz.checked os 4 .any (Rows.worldNewSpec.pre6 enc Tryz.prog Tryz.f4 Rows.worldNewRow.domain false) (Rows.worldNewSpec.post enc Tryz.prog Tryz.f4 false true false false) := by
  refine returnsInHanded_of_change_sized (C := Tryz.checked) own started (by kernel_rfl) Tryz.func4
    (ChangeSpec.witness6 (enc := enc) (C := Tryz.checked) false ⟨#[], #[.agg #[.slice none 0 0, .slice none 0 0, .int .i64 0, .int .i64 0, .int .i64 0, .int .i64 0, .int .i64 0]], []⟩ 8 (by kernel_rfl) (by kernel_rfl) (by kernel_rfl) (by kernel_rfl)) ?_
  intro W base args ds gs before hval hW _ hsz _
  exact law_calls (K := 12) (n := 1) (bt := 4) laidOut (by kernel_rfl) rfl rfl Tryz.underlying4 rfl (fun ds h => by match ds, h with | [_], _ => rfl) ext_ok (by kernel_rfl) plain hval hW hsz
theorem over : Rows.worldNewRow.holds Tryz.pinned (OpenSpec.ofChange Rows.worldNewSpec) :=
  OpenClaim.holds_of_wide 4 Tryz.f4 rfl rfl rfl rfl rfl rfl rfl ⟨rfl, rfl, rfl, rfl, rfl⟩ rfl rfl rfl rfl rfl (by kernel_rfl) Tryz.func4 (by kernel_rfl)
    (of_decide_eq_true (by kernel_rfl)) (by unfold Func.isWrapper; first | (rw [if_pos (by decide +kernel)]; kernel_rfl) | (rw [if_neg (by decide +kernel)]; exact ⟨rfl, rfl⟩))
    (fun os started H enc _ => lifted os started H enc)
theorem proved : Rows.WorldNewSaid := over
#print axioms proved
end Go.Proofs.YtifmjomfoilnnaaGreat.worldNew
namespace Go.Proofs.YtifmjomfoilnnaaGreat
/-- The row, under a short name, for the claim. -/
theorem worldNew_holds : Rows.WorldNewSaid := worldNew.proved
end Go.Proofs.YtifmjomfoilnnaaGreat
