import Derived.Test.YtlpadffinfijgaaGreatRows
import Derived.Test.YtlpadffinfijgaaGreatVmDQ
import Derived.Test.YtlpadffinfijgaaGreatVmQT2
import Derived.WalkKit
import Derived.ProofKit
import Derived.OpenShut
import Derived.SizedLaws
namespace Go.Proofs.YtlpadffinfijgaaGreat.seqTells
open Go Go.Proofs Go.ChangeShapes Go.WideShapes Go.ChangeAt Go.RowKit
open Go.Proofs.YtlpadffinfijgaaGreatW.Vm Go.Proofs.YtlpadffinfijgaaGreatW.Rg
set_option linter.unusedVariables false
theorem own : ownKnob Tryz.prog.godebug = none := by kernel_rfl
theorem laidOut : laidOutB Tryz.prog = true := by kernel_rfl
set_option maxRecDepth 100000 in
theorem plain (xs : List D) (h : HasAll Tryz.prog 10 [26, 3] xs) : ∃ k, fnc Tryz.prog cfgE (exec Tryz.prog cfgE k) 3 xs = some (.bool true) := by
  obtain ⟨ds, _, rfl, h1, es, _, rfl, h2, rfl⟩ := h
  obtain ⟨p, a, s, e, hb, hz, ha⟩ := dec_input (k := 4) h1
  obtain ⟨n, rfl, _⟩ := dec_int h2
  rw [e, toD_int]
  exact fnc_k (tells10_law p a s n hb)
set_option maxRecDepth 100000 in
theorem lifted (os : Os) (started : os.Started) (H : Type) (enc : TypeId × Value → H) :
    ReturnsInHanded {} Tryz.checked os 3 .any (Rows.seqTellsSpec.pre6 enc Tryz.prog Tryz.f3 Rows.seqTellsRow.domain false) (Rows.seqTellsSpec.post enc Tryz.prog Tryz.f3 false true false false) := by
  refine returnsInHanded_of_change_sized (C := Tryz.checked) own started (by kernel_rfl) Tryz.func3
    (ChangeSpec.witness6 (enc := enc) (C := Tryz.checked) false ⟨#[], #[.agg #[.slice none 0 0, .slice none 0 0, .int .i64 0], .int .i64 0], []⟩ 8 (by kernel_rfl) (by kernel_rfl) (by kernel_rfl) (by kernel_rfl)) ?_
  intro W base args ds gs before hval hW _ hsz _
  exact law_calls (K := 10) (n := 2) (bt := 4) laidOut (by kernel_rfl) rfl rfl Tryz.underlying4 rfl (fun ds h => by match ds, h with | [_, _], _ => rfl) fitE.ext (by kernel_rfl) plain hval hW hsz
theorem over : Rows.seqTellsRow.holds Tryz.pinned (OpenSpec.ofChange Rows.seqTellsSpec) :=
  OpenClaim.holds_of_wide 3 Tryz.f3 rfl rfl rfl rfl rfl rfl rfl ⟨rfl, rfl, rfl, rfl, rfl⟩ rfl rfl rfl rfl rfl (by kernel_rfl) Tryz.func3 (by kernel_rfl)
    (of_decide_eq_true (by kernel_rfl)) (by unfold Func.isWrapper; first | (rw [if_pos (by decide +kernel)]; kernel_rfl) | (rw [if_neg (by decide +kernel)]; exact ⟨rfl, rfl⟩))
    (fun os started H enc _ => lifted os started H enc)
theorem proved : Rows.SeqTellsSaid := over
#print axioms proved
end Go.Proofs.YtlpadffinfijgaaGreat.seqTells
namespace Go.Proofs.YtlpadffinfijgaaGreat
/-- The row, under a short name, for the claim. -/
theorem seqTells_holds : Rows.SeqTellsSaid := seqTells.proved
end Go.Proofs.YtlpadffinfijgaaGreat
