/- The fixed calls of layer 13. No conditions. -/
import Derived.Test.YtifmjomfoilnnaaGreatVmPX
set_option linter.unusedVariables false
set_option linter.unusedSimpArgs false
set_option maxRecDepth 1000000
namespace Go.Proofs.YtifmjomfoilnnaaGreatW.Rg
open Go.Proofs.YtifmjomfoilnnaaGreatW.Vm
open Go Go.Proofs
theorem fixed13_k : beqo (fnc Tryz.prog cfg (exec Tryz.prog cfg 500) 10 []) (some (.bool true)) = true := by decide +kernel
theorem fixed13 : fnc Tryz.prog cfg R 10 [] = some (.bool true) := eval_k 500 fixed13_k
end Go.Proofs.YtifmjomfoilnnaaGreatW.Rg
