import Derived.Test.YtlpadffinfijgaaRows
import Derived.Test.YtlpadffinfijgaaVmDQ
import Derived.Test.YtlpadffinfijgaaVmQL2
import Derived.WalkKit
import Derived.ProofKit
import Derived.OpenShut
import Derived.SizedLaws
namespace Go.Proofs.Ytlpadffinfijgaa.seqSeeds
open Go Go.Proofs Go.ChangeShapes Go.WideShapes Go.ChangeAt Go.RowKit
open Go.Proofs.YtlpadffinfijgaaW.Vm Go.Proofs.YtlpadffinfijgaaW.Rg
set_option linter.unusedVariables false
theorem own : ownKnob Try.prog.godebug = none := by kernel_rfl
theorem laidOut : laidOutB Try.prog = true := by kernel_rfl
set_option maxRecDepth 100000 in
theorem plain (xs : List D) (h : HasAll Try.prog 10 [26, 3, 3] xs) : ∃ k, fnc Try.prog cfgE (exec Try.prog cfgE k) 7 xs = some (.bool true) := by
  obtain ⟨ds, _, rfl, h1, es, _, rfl, h2, gs, _, rfl, h3, rfl⟩ := h
  obtain ⟨p, a, s, e, hb, hz, ha⟩ := dec_input (k := 4) h1
  obtain ⟨n, rfl, _⟩ := dec_int h2
  obtain ⟨m, rfl, _⟩ := dec_int h3
  rw [e, toD_int, toD_int]
  exact fnc_k (seeds10_law p a s n m fun g hg => by have := hz g hg; omega)
set_option maxRecDepth 100000 in
theorem lifted (os : Os) (started : os.Started) (H : Type) (enc : TypeId × Value → H) :
    ReturnsInHanded {} Try.checked os 7 .any (Rows.seqSeedsSpec.pre6 enc Try.prog Try.f7 Rows.seqSeedsRow.domain false) (Rows.seqSeedsSpec.post enc Try.prog Try.f7 false true false false) := by
  refine returnsInHanded_of_change_sized (C := Try.checked) own started (by kernel_rfl) Try.func7
    (ChangeSpec.witness6 (enc := enc) (C := Try.checked) false ⟨#[], #[.agg #[.slice none 0 0, .slice none 0 0, .int .i64 0], .int .i64 0, .int .i64 0], []⟩ 8 (by kernel_rfl) (by kernel_rfl) (by kernel_rfl) (by kernel_rfl)) ?_
  intro W base args ds gs before hval hW _ hsz _
  exact law_calls (K := 10) (n := 3) (bt := 4) laidOut (by kernel_rfl) rfl rfl Try.underlying4 rfl (fun ds h => by match ds, h with | [_, _, _], _ => rfl) fitE.ext (by kernel_rfl) plain hval hW hsz
theorem over : Rows.seqSeedsRow.holds Try.pinned (OpenSpec.ofChange Rows.seqSeedsSpec) :=
  OpenClaim.holds_of_wide 7 Try.f7 rfl rfl rfl rfl rfl rfl rfl ⟨rfl, rfl, rfl, rfl, rfl⟩ rfl rfl rfl rfl rfl (by kernel_rfl) Try.func7 (by kernel_rfl)
    (of_decide_eq_true (by kernel_rfl)) (by unfold Func.isWrapper; first | (rw [if_pos (by decide +kernel)]; kernel_rfl) | (rw [if_neg (by decide +kernel)]; exact ⟨rfl, rfl⟩))
    (fun os started H enc _ => lifted os started H enc)
theorem proved : Rows.SeqSeedsSaid := over
#print axioms proved
end Go.Proofs.Ytlpadffinfijgaa.seqSeeds
namespace Go.Proofs.Ytlpadffinfijgaa
/-- The row, under a short name, for the claim. -/
theorem seqSeeds_holds : Rows.SeqSeedsSaid := seqSeeds.proved
end Go.Proofs.Ytlpadffinfijgaa
