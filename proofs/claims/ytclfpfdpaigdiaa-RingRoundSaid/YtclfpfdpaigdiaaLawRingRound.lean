import Derived.Test.YtclfpfdpaigdiaaRows
import Derived.Test.YtclfpfdpaigdiaaVmDec
import Derived.Test.YtclfpfdpaigdiaaVmRRound
import Derived.WalkKit
import Derived.ProofKit
import Derived.OpenShut
import Derived.SizedLaws
namespace Go.Proofs.Ytclfpfdpaigdiaa.ringRound
open Go Go.Proofs Go.ChangeShapes Go.WideShapes Go.ChangeAt Go.RowKit
open Go.Proofs.YtclfpfdpaigdiaaW.Vm Go.Proofs.YtclfpfdpaigdiaaW.Rg
set_option linter.unusedVariables false
theorem own : ownKnob Try.prog.godebug = none := by kernel_rfl
theorem laidOut : laidOutB Try.prog = true := by kernel_rfl
theorem plain (xs : List D) (h : HasAll Try.prog 6 [3, 22] xs) : ∃ k, fnc Try.prog cfg (exec Try.prog cfg k) 7 xs = some (.bool true) := by
  obtain ⟨ds, _, rfl, h1, es, _, rfl, h2, rfl⟩ := h
  obtain ⟨a, rfl, _⟩ := dec_int h1
  obtain ⟨b, rfl, _⟩ := dec_refs h2
  rw [show toD Try.prog 3 [I a] = I a by unfold toD; rw [un3]; rfl, show toD Try.prog 22 [encS b] = encS b by unfold toD; rw [un22]; rfl]
  exact fnc_k (round_law a b)
set_option maxRecDepth 100000 in
theorem lifted (os : Os) (started : os.Started) (H : Type) (enc : TypeId × Value → H) :
    ReturnsInHanded {} Try.checked os 7 .any (Rows.ringRoundSpec.pre6 enc Try.prog Try.f7 Rows.ringRoundRow.domain false) (Rows.ringRoundSpec.post enc Try.prog Try.f7 false true false false) := by
  refine returnsInHanded_of_change_sized (C := Try.checked) own started (by kernel_rfl) Try.func7
    (ChangeSpec.witness6 (enc := enc) (C := Try.checked) false ⟨#[], #[.int .i64 0, .slice none 0 0], []⟩ 8 (by kernel_rfl) (by kernel_rfl) (by kernel_rfl) (by kernel_rfl)) ?_
  intro W base args ds gs before hval hW _ _ _
  exact law_calls (K := 6) (n := 2) (bt := 4) laidOut (by kernel_rfl) rfl rfl Try.underlying4 rfl (fun ds h => by match ds, h with | [_, _], _ => rfl) ext_ok (by kernel_rfl) plain hval hW
theorem over : Rows.ringRoundRow.holds Try.pinned (OpenSpec.ofChange Rows.ringRoundSpec) :=
  OpenClaim.holds_of_wide 7 Try.f7 rfl rfl rfl rfl rfl rfl rfl ⟨rfl, rfl, rfl, rfl, rfl⟩ rfl rfl rfl rfl rfl (by kernel_rfl) Try.func7 (by kernel_rfl)
    (of_decide_eq_true (by kernel_rfl)) (by unfold Func.isWrapper; first | (rw [if_pos (by decide +kernel)]; kernel_rfl) | (rw [if_neg (by decide +kernel)]; exact ⟨rfl, rfl⟩))
    (fun os started H enc _ => lifted os started H enc)
theorem proved : Rows.RingRoundSaid := over
#print axioms proved
end Go.Proofs.Ytclfpfdpaigdiaa.ringRound
namespace Go.Proofs.Ytclfpfdpaigdiaa
/-- The row, under a short name, for the claim. -/
theorem ringRound_holds : Rows.RingRoundSaid := ringRound.proved
end Go.Proofs.Ytclfpfdpaigdiaa
