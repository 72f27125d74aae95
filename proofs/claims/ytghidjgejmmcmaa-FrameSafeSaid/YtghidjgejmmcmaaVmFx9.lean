/- The fixed calls of layer 9. No conditions. -/
import Derived.Test.YtghidjgejmmcmaaVmEA
set_option linter.unusedVariables false
set_option linter.unusedSimpArgs false
set_option maxRecDepth 1000000
namespace Go.Proofs.YtghidjgejmmcmaaW.Rg
open Go.Proofs.YtghidjgejmmcmaaW.Vm Go.Proofs.YtghidjgejmmcmaaW.Md
open Go Go.Proofs
theorem fixed9_k : beqo (fnc Try.prog cfg (exec Try.prog cfg 300) 7 []) (some (.bool true)) = true := by decide +kernel
theorem fixed9 : fnc Try.prog cfg R 7 [] = some (.bool true) := eval_k 300 fixed9_k
end Go.Proofs.YtghidjgejmmcmaaW.Rg
