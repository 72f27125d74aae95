import Derived.Test.YtifmjomfoilnnaaGreatRows
import Derived.Test.YtifmjomfoilnnaaGreatVmWE
import Derived.Test.YtifmjomfoilnnaaGreatVmLW1
import Derived.WalkKit
import Derived.ProofKit
import Derived.OpenShut
import Derived.SizedLaws
namespace Go.Proofs.YtifmjomfoilnnaaGreat.worldFresh
open Go Go.Proofs Go.ChangeShapes Go.WideShapes Go.ChangeAt Go.RowKit
open Go.Proofs.YtifmjomfoilnnaaGreatW.Vm Go.Proofs.YtifmjomfoilnnaaGreatW.Rg
set_option linter.unusedVariables false
theorem own : ownKnob Tryz.prog.godebug = none := by kernel_rfl
theorem laidOut : laidOutB Tryz.prog = true := by kernel_rfl
set_option maxRecDepth 100000 in
theorem plain (xs : List D) (h : HasAll Tryz.prog 12 [3, 26] xs) : ∃ k, fnc Tryz.prog cfg (exec Tryz.prog cfg k) 7 xs = some (.bool true) := by
  obtain ⟨ds, _, rfl, h1, es, _, rfl, h2, rfl⟩ := h
  obtain ⟨n, rfl, _⟩ := dec_int h1
  obtain ⟨a, b, c, rfl⟩ := dec_lims (k := 10) h2
  have e : toD Tryz.prog 26 [I a, I b, I c] = .agg [I a, I b, I c] := by unfold toD; rw [Tryz.underlying26]
  rw [toD_int, e]
  exact fnc_k (fresh13_law n a b c)
set_option maxRecDepth 100000 in
theorem lifted (os : Os) (started : os.Started) (H : Type) (enc : TypeId × Value → H) :
    ReturnsInHanded {} Tryz.checked os 7 .any (Rows.worldFreshSpec.pre6 enc Tryz.prog Tryz.f7 Rows.worldFreshRow.domain false) (Rows.worldFreshSpec.post enc Tryz.prog Tryz.f7 false true false false) := by
  refine returnsInHanded_of_change_sized (C := Tryz.checked) own started (by kernel_rfl) Tryz.func7
    (ChangeSpec.witness6 (enc := enc) (C := Tryz.checked) false ⟨#[], #[.int .i64 0, .agg #[.int .i64 0, .int .i64 0, .int .i64 0]], []⟩ 8 (by kernel_rfl) (by kernel_rfl) (by kernel_rfl) (by kernel_rfl)) ?_
  intro W base args ds gs before hval hW _ hsz _
  exact law_calls (K := 12) (n := 2) (bt := 4) laidOut (by kernel_rfl) rfl rfl Tryz.underlying4 rfl (fun ds h => by match ds, h with | [_, _], _ => rfl) ext_ok (by kernel_rfl) plain hval hW hsz
theorem over : Rows.worldFreshRow.holds Tryz.pinned (OpenSpec.ofChange Rows.worldFreshSpec) :=
  OpenClaim.holds_of_wide 7 Tryz.f7 rfl rfl rfl rfl rfl rfl rfl ⟨rfl, rfl, rfl, rfl, rfl⟩ rfl rfl rfl rfl rfl (by kernel_rfl) Tryz.func7 (by kernel_rfl)
    (of_decide_eq_true (by kernel_rfl)) (by unfold Func.isWrapper; first | (rw [if_pos (by decide +kernel)]; kernel_rfl) | (rw [if_neg (by decide +kernel)]; exact ⟨rfl, rfl⟩))
    (fun os started H enc _ => lifted os started H enc)
theorem proved : Rows.WorldFreshSaid := over
#print axioms proved
end Go.Proofs.YtifmjomfoilnnaaGreat.worldFresh
namespace Go.Proofs.YtifmjomfoilnnaaGreat
/-- The row, under a short name, for the claim. -/
theorem worldFresh_holds : Rows.WorldFreshSaid := worldFresh.proved
end Go.Proofs.YtifmjomfoilnnaaGreat
