import Derived.Test.YtghidjgejmmcmaaGreatRows
import Derived.Test.YtghidjgejmmcmaaGreatVmD9c
import Derived.Test.YtghidjgejmmcmaaGreatVmL9z
import Derived.WalkKit
import Derived.ProofKit
import Derived.OpenShut
import Derived.SizedLaws
namespace Go.Proofs.YtghidjgejmmcmaaGreat.frameTells
open Go Go.Proofs Go.ChangeShapes Go.WideShapes Go.ChangeAt Go.RowKit
open Go.Proofs.YtghidjgejmmcmaaGreatW.Vm Go.Proofs.YtghidjgejmmcmaaGreatW.Rg
set_option linter.unusedVariables false
theorem own : ownKnob Tryz.prog.godebug = none := by kernel_rfl
theorem laidOut : laidOutB Tryz.prog = true := by kernel_rfl
set_option maxRecDepth 100000 in
theorem plain (xs : List D) (h : HasAll Tryz.prog 6 [23, 33, 35] xs) : ∃ k, fnc Tryz.prog cfg (exec Tryz.prog cfg k) 3 xs = some (.bool true) := by
  obtain ⟨ds, _, rfl, h1, es, _, rfl, h2, gs, _, rfl, h3, rfl⟩ := h
  obtain ⟨p, rfl, hb, hz, har⟩ := dec_prog3 (k := 1) h1
  obtain ⟨f, a, b, z, e, ha, hb', hz', _, _, _⟩ := dec_frame (k := 0) h2
  obtain ⟨sl, fn, sd, o, args, e3⟩ := dec_told (k := 2) h3
  rw [toD_prog, e, e3]
  exact fnc_k (tells9_law p hb hz har f a b z ha hb' hz' sl fn sd o args)
set_option maxRecDepth 100000 in
theorem lifted (os : Os) (started : os.Started) (H : Type) (enc : TypeId × Value → H) :
    ReturnsInHanded {} Tryz.checked os 3 .any (Rows.frameTellsSpec.pre6 enc Tryz.prog Tryz.f3 Rows.frameTellsRow.domain false) (Rows.frameTellsSpec.post enc Tryz.prog Tryz.f3 false true false false) := by
  refine returnsInHanded_of_change_sized (C := Tryz.checked) own started (by kernel_rfl) Tryz.func3
    (ChangeSpec.witness6 (enc := enc) (C := Tryz.checked) false ⟨#[], #[.slice none 0 0, .agg #[.int .i64 0, .int .i64 0, .slice none 0 0, .slice none 0 0, .slice none 0 0, .int .i64 0, .int .i64 0, .int .i64 0, .int .i64 0, .int .i64 0, .int .i64 0, .int .i64 0, .int .i64 0, .int .i64 0, .int .i64 0, .int .i64 0], .agg #[.int .i64 0, .int .i64 0, .int .i64 0, .int .i64 0, .int .i64 0, .slice none 0 0, .int .i64 0]], []⟩ 8 (by kernel_rfl) (by kernel_rfl) (by kernel_rfl) (by kernel_rfl)) ?_
  intro W base args ds gs before hval hW _ hsz _
  exact law_calls (K := 6) (n := 3) (bt := 4) laidOut (by kernel_rfl) rfl rfl Tryz.underlying4 rfl (fun ds h => by match ds, h with | [_, _, _], _ => rfl) ext_ok (by kernel_rfl) plain hval hW hsz
theorem over : Rows.frameTellsRow.holds Tryz.pinned (OpenSpec.ofChange Rows.frameTellsSpec) :=
  OpenClaim.holds_of_wide 3 Tryz.f3 rfl rfl rfl rfl rfl rfl rfl ⟨rfl, rfl, rfl, rfl, rfl⟩ rfl rfl rfl rfl rfl (by kernel_rfl) Tryz.func3 (by kernel_rfl)
    (of_decide_eq_true (by kernel_rfl)) (by unfold Func.isWrapper; first | (rw [if_pos (by decide +kernel)]; kernel_rfl) | (rw [if_neg (by decide +kernel)]; exact ⟨rfl, rfl⟩))
    (fun os started H enc _ => lifted os started H enc)
theorem proved : Rows.FrameTellsSaid := over
#print axioms proved
end Go.Proofs.YtghidjgejmmcmaaGreat.frameTells
namespace Go.Proofs.YtghidjgejmmcmaaGreat
/-- The row, under a short name, for the claim. -/
theorem frameTells_holds : Rows.FrameTellsSaid := frameTells.proved
end Go.Proofs.YtghidjgejmmcmaaGreat
