import Derived.Test.YtclfpfdpaigdiaaRows
import Derived.Test.YtclfpfdpaigdiaaVmDec
import Derived.Test.YtclfpfdpaigdiaaVmRT6
import Derived.WalkKit
import Derived.ProofKit
import Derived.OpenShut
import Derived.SizedLaws
namespace Go.Proofs.Ytclfpfdpaigdiaa.ringTells
open Go Go.Proofs Go.ChangeShapes Go.WideShapes Go.ChangeAt Go.RowKit
open Go.Proofs.YtclfpfdpaigdiaaW.Vm Go.Proofs.YtclfpfdpaigdiaaW.Rg
set_option linter.unusedVariables false
theorem own : ownKnob Try.prog.godebug = none := by kernel_rfl
theorem laidOut : laidOutB Try.prog = true := by kernel_rfl
set_option maxRecDepth 100000 in
theorem plain (xs : List D) (h : HasAll Try.prog 6 [24, 22, 25] xs) : ∃ k, fnc Try.prog cfg (exec Try.prog cfg k) 3 xs = some (.bool true) := by
  obtain ⟨ds, _, rfl, h1, es, _, rfl, h2, gs, _, rfl, h3, rfl⟩ := h
  obtain ⟨r, hr, hl⟩ := dec_ring h1
  obtain ⟨b, rfl, hb⟩ := dec_refs h2
  obtain ⟨n, m, hn⟩ := dec_two h3
  rw [hr, hn, show toD Try.prog 22 [encS b] = encS b by unfold toD; rw [un22]; rfl]
  exact fnc_k (tells_law r b n m)
set_option maxRecDepth 100000 in
theorem lifted (os : Os) (started : os.Started) (H : Type) (enc : TypeId × Value → H) :
    ReturnsInHanded {} Try.checked os 3 .any (Rows.ringTellsSpec.pre6 enc Try.prog Try.f3 Rows.ringTellsRow.domain false) (Rows.ringTellsSpec.post enc Try.prog Try.f3 false true false false) := by
  refine returnsInHanded_of_change_sized (C := Try.checked) own started (by kernel_rfl) Try.func3
    (ChangeSpec.witness6 (enc := enc) (C := Try.checked) false ⟨#[], #[.agg #[.slice none 0 0, .int .i64 0, .int .i64 0, .int .i64 0], .slice none 0 0, .agg #[.int .i64 0, .int .i64 0]], []⟩ 8 (by kernel_rfl) (by kernel_rfl) (by kernel_rfl) (by kernel_rfl)) ?_
  intro W base args ds gs before hval hW _ hsz _
  exact law_calls (K := 6) (n := 3) (bt := 4) laidOut (by kernel_rfl) rfl rfl Try.underlying4 rfl (fun ds h => by match ds, h with | [_, _, _], _ => rfl) ext_ok (by kernel_rfl) plain hval hW hsz
theorem over : Rows.ringTellsRow.holds Try.pinned (OpenSpec.ofChange Rows.ringTellsSpec) :=
  OpenClaim.holds_of_wide 3 Try.f3 rfl rfl rfl rfl rfl rfl rfl ⟨rfl, rfl, rfl, rfl, rfl⟩ rfl rfl rfl rfl rfl (by kernel_rfl) Try.func3 (by kernel_rfl)
    (of_decide_eq_true (by kernel_rfl)) (by unfold Func.isWrapper; first | (rw [if_pos (by decide +kernel)]; kernel_rfl) | (rw [if_neg (by decide +kernel)]; exact ⟨rfl, rfl⟩))
    (fun os started H enc _ => lifted os started H enc)
theorem proved : Rows.RingTellsSaid := over
#print axioms proved
end Go.Proofs.Ytclfpfdpaigdiaa.ringTells
namespace Go.Proofs.Ytclfpfdpaigdiaa
/-- The row, under a short name, for the claim. -/
theorem ringTells_holds : Rows.RingTellsSaid := ringTells.proved
end Go.Proofs.Ytclfpfdpaigdiaa
