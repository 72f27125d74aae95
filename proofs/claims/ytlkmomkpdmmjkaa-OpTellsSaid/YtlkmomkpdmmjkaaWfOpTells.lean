-- Written by a program of this session (a changed copy of the kit's print).
import Derived.Test.YtlkmomkpdmmjkaaOpen
import Derived.Test.YtlkmomkpdmmjkaaPOpTellsx6
namespace Go.Proofs.Ytlkmomkpdmmjkaa.POpTells
open Go Go.RowKit Go.Proofs.YtlkmomkpdmmjkaaW.PrintWords Go.Proofs.YtlkmomkpdmmjkaaW.PrintLast
open Go.Proofs.YtlkmomkpdmmjkaaW.Open
set_option linter.unusedVariables false
def wf33 (x : S33) : Prop := (fun n : Int => (Lit.int .i64 n).wf = true) x.f0 ∧ ((fun n : Int => (Lit.int .i64 n).wf = true) x.f1 ∧ ((fun n : Int => (Lit.int .i64 n).wf = true) x.f2))
theorem opens33 : Opens Try.prog 33 k33 wf33 :=
  opens_struct (fun x : S33 => (x.f0, x.f1, x.f2)) (fun y => ⟨y.1, y.2.1, y.2.2⟩) (fun _ => rfl) Try.underlying33 (opensF_cons rfl (by kernel_rfl) (opens_int Try.underlying3) (opensF_cons rfl (by kernel_rfl) (opens_int Try.underlying3) (opensF_one rfl (by kernel_rfl) (opens_int Try.underlying3)))) rfl (fun _ h => h) (by kernel_rfl)
/-- THE ONE PURE STATEMENT of transhumancelaw06_OpTells. -/
def transhumancelaw06_OpTells.Pure : Prop := ∀ (x0 : Int) (x1 : ByteArray) (x2 : S33), (Lit.int .i64 x0).wf = true → x1.size ≤ maxLen → wf33 x2 → ∃ k, transhumancelaw06_OpTells.f k x0 x1 x2.f0 x2.f1 x2.f2 = some true
end Go.Proofs.Ytlkmomkpdmmjkaa.POpTells
