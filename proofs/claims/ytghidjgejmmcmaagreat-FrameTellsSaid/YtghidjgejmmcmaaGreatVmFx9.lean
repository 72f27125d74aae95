/- The fixed calls of layer 9. No conditions. -/
import Derived.Test.YtghidjgejmmcmaaGreatVmEA
set_option linter.unusedVariables false
set_option linter.unusedSimpArgs false
set_option maxRecDepth 1000000
namespace Go.Proofs.YtghidjgejmmcmaaGreatW.Rg
open Go.Proofs.YtghidjgejmmcmaaGreatW.Vm Go.Proofs.YtghidjgejmmcmaaGreatW.Md
open Go Go.Proofs
theorem fixed9_k : beqo (fnc Tryz.prog cfg (exec Tryz.prog cfg 300) 6 []) (some (.bool true)) = true := by decide +kernel
theorem fixed9 : fnc Tryz.prog cfg R 6 [] = some (.bool true) := eval_k 300 fixed9_k
end Go.Proofs.YtghidjgejmmcmaaGreatW.Rg
