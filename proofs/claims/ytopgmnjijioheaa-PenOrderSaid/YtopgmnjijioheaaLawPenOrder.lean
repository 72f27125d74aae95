import Derived.Test.YtopgmnjijioheaaRows
import Derived.Test.YtopgmnjijioheaaVmPD
import Derived.Test.YtopgmnjijioheaaVmLP4
import Derived.WalkKit
import Derived.ProofKit
import Derived.OpenShut
import Derived.SizedLaws
namespace Go.Proofs.Ytopgmnjijioheaa.penOrder
open Go Go.Proofs Go.ChangeShapes Go.WideShapes Go.ChangeAt Go.RowKit
open Go.Proofs.YtopgmnjijioheaaW.Vm Go.Proofs.YtopgmnjijioheaaW.Rg
set_option linter.unusedVariables false
theorem own : ownKnob Try.prog.godebug = none := by kernel_rfl
theorem laidOut : laidOutB Try.prog = true := by kernel_rfl
set_option maxRecDepth 100000 in
theorem plain (xs : List D) (h : HasAll Try.prog 10 [25, 35, 3] xs) : ∃ k, fnc Try.prog cfg (exec Try.prog cfg k) 8 xs = some (.bool true) := by
  obtain ⟨ds, _, rfl, h1, es, _, rfl, h2, gs, _, rfl, h3, rfl⟩ := h
  obtain ⟨cs, fr, m, e, l1, l2, ok⟩ := dec_pen (k := 1) h1
  obtain ⟨x, e2, okx⟩ := dec_fx (k := 4) h2
  obtain ⟨n, rfl, _⟩ := dec_int h3
  rw [e, e2, toD_int]
  exact fnc_k (order12_law cs fr ⟨cs.getD [], fr.getD [], m⟩ ⟨rfl, rfl⟩ l1 ok x okx n)
set_option maxRecDepth 100000 in
theorem lifted (os : Os) (started : os.Started) (H : Type) (enc : TypeId × Value → H) :
    ReturnsInHanded {} Try.checked os 8 .any (Rows.penOrderSpec.pre6 enc Try.prog Try.f8 Rows.penOrderRow.domain false) (Rows.penOrderSpec.post enc Try.prog Try.f8 false true false false) := by
  refine returnsInHanded_of_change_sized (C := Try.checked) own started (by kernel_rfl) Try.func8
    (ChangeSpec.witness6 (enc := enc) (C := Try.checked) false ⟨#[], #[.agg #[.slice none 0 0, .slice none 0 0, .int .i64 0], .agg #[.int .i64 0, .int .i64 0, .slice none 0 0, .slice none 0 0, .slice none 0 0, .int .i64 0, .int .i64 0, .int .i64 0, .int .i64 0, .int .i64 0, .int .i64 0, .int .i64 0, .int .i64 0, .int .i64 0, .int .i64 0, .int .i64 0], .int .i64 0], []⟩ 8 (by kernel_rfl) (by kernel_rfl) (by kernel_rfl) (by kernel_rfl)) ?_
  intro W base args ds gs before hval hW _ hsz _
  exact law_calls (K := 10) (n := 3) (bt := 4) laidOut (by kernel_rfl) rfl rfl Try.underlying4 rfl (fun ds h => by match ds, h with | [_, _, _], _ => rfl) ext_ok (by kernel_rfl) plain hval hW hsz
theorem over : Rows.penOrderRow.holds Try.pinned (OpenSpec.ofChange Rows.penOrderSpec) :=
  OpenClaim.holds_of_wide 8 Try.f8 rfl rfl rfl rfl rfl rfl rfl ⟨rfl, rfl, rfl, rfl, rfl⟩ rfl rfl rfl rfl rfl (by kernel_rfl) Try.func8 (by kernel_rfl)
    (of_decide_eq_true (by kernel_rfl)) (by unfold Func.isWrapper; first | (rw [if_pos (by decide +kernel)]; kernel_rfl) | (rw [if_neg (by decide +kernel)]; exact ⟨rfl, rfl⟩))
    (fun os started H enc _ => lifted os started H enc)
theorem proved : Rows.PenOrderSaid := over
#print axioms proved
end Go.Proofs.Ytopgmnjijioheaa.penOrder
namespace Go.Proofs.Ytopgmnjijioheaa
/-- The row, under a short name, for the claim. -/
theorem penOrder_holds : Rows.PenOrderSaid := penOrder.proved
end Go.Proofs.Ytopgmnjijioheaa
