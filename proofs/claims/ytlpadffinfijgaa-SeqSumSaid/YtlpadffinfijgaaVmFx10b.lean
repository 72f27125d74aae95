/- The text of SeqSum, parsed in memory that is not empty. No conditions. -/
import Derived.Test.YtlpadffinfijgaaVmQL1
import Derived.KernelRfl
set_option linter.unusedVariables false
set_option linter.unusedSimpArgs false
set_option maxRecDepth 1000000
namespace Go.Proofs.YtlpadffinfijgaaW.Rg
open Go.Proofs.YtlpadffinfijgaaW.Vm Go.Proofs.YtlpadffinfijgaaW.Md
open Go Go.Proofs
def tx_x4 : ByteArray := ⟨#[102, 117, 110, 99, 32, 49, 32, 49, 32, 50, 10, 108, 111, 97, 100, 32, 48, 10, 115, 112, 97, 119, 110, 32, 49, 32, 48, 10, 108, 111, 97, 100, 32, 48, 10, 115, 112, 97, 119, 110, 32, 49, 32, 49, 10, 106, 111, 105, 110, 32, 49, 10, 106, 111, 105, 110, 32, 48, 10, 97, 100, 100, 10, 114, 101, 116, 10, 102, 117, 110, 99, 32, 48, 32, 48, 32, 48, 10, 116, 114, 97, 112, 32, 49, 54, 10]⟩
def zz : Ob := ⟨0, 1, [I 0], 0⟩
noncomputable def psE : List Ob := ((body Try.prog (exec Try.prog cfg 300) 26 [.str tx_x4] [zz, zz, zz, zz, zz]).map (fun r => r.2.drop 5)).getD []
theorem ps_k (o0 o1 o2 o3 o4 : Ob) : body Try.prog (exec Try.prog cfg 300) 26 [.str tx_x4] [o0, o1, o2, o3, o4] = some (.tup [.own 4 8 1 0 2, I 11, .int .i64 0], o0 :: o1 :: o2 :: o3 :: o4 :: psE) := by kernel_rfl
theorem ps_8 : psE[3]? = some ⟨1, 4, [.agg [I 1, I 1, I 2, .own 3 12 7 0 8], .agg [I 0, I 0, I 0, .own 3 40 0 0 1]], 0⟩ := by kernel_rfl
theorem ps_12 : psE[7]? = some ⟨7, 3, [.agg [I 1, I 0, I 0], .agg [I 13, I 1, I 0], .agg [I 1, I 0, I 0], .agg [I 13, I 1, I 1], .agg [I 14, I 1, I 0], .agg [I 14, I 0, I 0], .agg [I 3, I 0, I 0], .agg [I 15, I 0, I 0]], 0⟩ := by kernel_rfl
end Go.Proofs.YtlpadffinfijgaaW.Rg
