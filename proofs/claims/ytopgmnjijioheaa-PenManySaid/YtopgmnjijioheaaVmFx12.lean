/- The fixed calls of layer 12. No conditions. -/
import Derived.Test.YtopgmnjijioheaaVmPX
set_option linter.unusedVariables false
set_option linter.unusedSimpArgs false
set_option maxRecDepth 1000000
namespace Go.Proofs.YtopgmnjijioheaaW.Rg
open Go.Proofs.YtopgmnjijioheaaW.Vm
open Go Go.Proofs
theorem fixed12_k : beqo (fnc Try.prog cfg (exec Try.prog cfg 300) 11 []) (some (.bool true)) = true := by decide +kernel
theorem fixed12 : fnc Try.prog cfg R 11 [] = some (.bool true) := eval_k 300 fixed12_k
end Go.Proofs.YtopgmnjijioheaaW.Rg
