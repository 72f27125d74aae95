-- Written by a program of this session (a changed copy of the kit's print).
import Derived.Test.YtlkmomkpdmmjkaaRows
import Derived.Test.YtlkmomkpdmmjkaaWfOpTells
import Derived.Test.YtlkmomkpdmmjkaaPureOpTells
import Derived.WalkKit
import Derived.ProofKit
import Derived.OpenShut
import Derived.ShutString
import Derived.ChangeOld
import Derived.Below
import Derived.SizedLaws
namespace Go.Proofs.Ytlkmomkpdmmjkaa.opTells
open Go.ChangeShapes Go.WideShapes Go.ChangeAt Go.RowKit
open Go.ChangeMaps (open_string shut_string)
open Go.Proofs.YtlkmomkpdmmjkaaW.PrintWords
open Go.Proofs.Ytlkmomkpdmmjkaa.POpTells Go.Proofs.YtlkmomkpdmmjkaaW.Open
set_option linter.unusedVariables false
theorem own : ownKnob Try.prog.godebug = none := by kernel_rfl
theorem laidOut : laidOutB Try.prog = true := by kernel_rfl
set_option maxRecDepth 100000 in
theorem lifted (os : Os) (started : os.Started) (H : Type) (enc : TypeId × Value → H) :
    ReturnsInHanded {} Try.checked os 8 .any (Rows.opTellsSpec.pre6 enc Try.prog Try.f8 Rows.opTellsRow.domain false) (Rows.opTellsSpec.post enc Try.prog Try.f8 false true false false) := by
  refine returnsInHanded_of_change_sized (C := Try.checked) own started (by kernel_rfl) Try.func8
    (ChangeSpec.witness6 (enc := enc) (C := Try.checked) false ⟨#[], #[.int .i64 0, .string ByteArray.empty, .agg #[.int .i64 0, .int .i64 0, .int .i64 0]], []⟩ 8 (by kernel_rfl) (by kernel_rfl) (by kernel_rfl) (by kernel_rfl)) ?_
  intro W base args ds gs before hval0 hW hcnd hsz0 _
  have hval : ∀ (j : Nat) t v, Try.f8.params[j]? = some t → args[j]? = some v → Value.okWide Try.prog W .any base t v := hval0
  have hW' := hW
  obtain ⟨p, q, hA0, hV, rfl, hfz, hnd⟩ := hW
  have hA : DataW.TrodAll enc Try.prog W 0 (fun _ => true) true Try.f8.params.toList args.toList ds p := hA0
  rw [Try.params8] at hA hval
  obtain ⟨v0, vs0, d0, ds0, p0, q0, hargs, rfl, rfl, h0, r0⟩ := trodAll_cons hA
  obtain ⟨v1, vs1, d1, ds1, p1, q1, rfl, rfl, rfl, h1, r1⟩ := trodAll_cons r0
  obtain ⟨v2, vs2, d2, ds2, p2, q2, rfl, rfl, rfl, h2, r2⟩ := trodAll_cons r1
  obtain ⟨rfl, rfl, rfl⟩ := trodAll_nil r2
  obtain rfl : args = #[v0, v1, v2] := by cases args; simp_all
  obtain ⟨rfl, rfl⟩ := trodVars_none hV
  obtain ⟨x0, rfl, rfl, rfl, w0⟩ := open_int Try.underlying3 (hval 0 3 v0 rfl rfl) h0
  obtain ⟨x1, rfl, rfl, rfl, w1⟩ := open_string Try.underlying9 (hval 1 9 v1 rfl rfl) h1
  have lt2 : ∀ x ∈ p2, x.block < W.heap.size := by obtain ⟨m, hm⟩ := h2; exact DataW.trod_lt m _ _ _ hm
  obtain ⟨cs2, rfl⟩ : ∃ cs, v2 = .agg cs := by
    have z := (hval 2 33 v2 rfl rfl)
    unfold Value.okWide at z
    rw [Try.underlying33] at z
    obtain ⟨cs, e, _⟩ := z
    exact ⟨cs, e⟩
  obtain ⟨x2, hk2, w2⟩ : ∃ x, k33.K W x cs2.toList ∧ wf33 x := by
    obtain ⟨m, hm⟩ := h2
    exact opens33.out enc W m _ _ _ hm
  obtain hcs2 := k33_open hk2
  obtain rfl : cs2 = #[.int .i64 x2.f0, .int .i64 x2.f1, .int .i64 x2.f2] := by rw [← Array.toList_inj]; exact hcs2
  clear hA0 hval0
  obtain ⟨k, hk⟩ := Pure.OpTells x0 x1 x2 w0 w1 w2
  refine (transhumancelaw06_OpTells.calls (k := k) (r := true) (w := W) (a0 := x0) (a1 := x1) (a2_0 := x2.f0) (a2_1 := x2.f1) (a2_2 := x2.f2) (h := hk)).mono fun e W' ⟨he, bel0⟩ => ?_
  have bel : Below W.heap.size W W' := bel0
  subst he
  exact ⟨_, rfl, _, _, _, [], _, [], hW', trodAll_mk1 (shut_bool Try.underlying4 _), (trodAll_cons_mk (shut_int Try.underlying3 w0) (trodAll_cons_mk (shut_string Try.underlying9 w1) (trodAll_cons_mk (Below.trod laidOut (by kernel_rfl) (of_decide_eq_true (by kernel_rfl)) h2 bel lt2) trodAll_mk0))), rfl, bel.frame _, fun h => by cases h⟩
theorem over : Rows.opTellsRow.holds Try.pinned (OpenSpec.ofChange Rows.opTellsSpec) :=
  OpenClaim.holds_of_wide 8 Try.f8 rfl rfl rfl rfl rfl rfl rfl ⟨rfl, rfl, rfl, rfl, rfl⟩ rfl rfl rfl rfl rfl (by kernel_rfl) Try.func8 (by kernel_rfl)
    (of_decide_eq_true (by kernel_rfl)) (by unfold Func.isWrapper; first | (rw [if_pos (by decide +kernel)]; kernel_rfl) | (rw [if_neg (by decide +kernel)]; exact ⟨rfl, rfl⟩))
    (fun os started H enc _ => lifted os started H enc)
theorem proved : Rows.OpTellsSaid := over
#print axioms proved
end Go.Proofs.Ytlkmomkpdmmjkaa.opTells
namespace Go.Proofs.Ytlkmomkpdmmjkaa
/-- The row, under a short name, for the claim. -/
theorem opTells_holds : Rows.OpTellsSaid := opTells.proved
end Go.Proofs.Ytlkmomkpdmmjkaa
