import Derived.Test.YtclfpfdpaigdiaaVmR7
set_option linter.unusedVariables false
set_option linter.unusedSimpArgs false
namespace Go.Proofs.YtclfpfdpaigdiaaW.Rg
open Go.Proofs.YtclfpfdpaigdiaaW.Vm
open Go Go.Proofs
def isTrue (x : Option D) : Bool := match x with | some (.bool true) => true | _ => false
theorem isTrue_iff {x : Option D} (h : isTrue x = true) : x = some (.bool true) := by
  unfold isTrue at h
  split at h
  · rfl
  · cases h
set_option maxRecDepth 100000 in
theorem fixed_k : isTrue (fnc Try.prog cfg (exec Try.prog cfg 90) 10 []) = true := by decide +kernel
theorem fixed_ok : fnc Try.prog cfg R 10 [] = some (.bool true) := fnc_le (exec_W 90) (isTrue_iff fixed_k)
end Go.Proofs.YtclfpfdpaigdiaaW.Rg
