/- Texts of the fixed calls of layer 8, as programs. No conditions. -/
import Derived.Test.YtcbmmiglccmekaaVmFx8a
set_option linter.unusedVariables false
set_option linter.unusedSimpArgs false
set_option maxRecDepth 1000000
namespace Go.Proofs.YtcbmmiglccmekaaW.Rg
open Go.Proofs.YtcbmmiglccmekaaW.Vm Go.Proofs.YtcbmmiglccmekaaW.Md
open Go Go.Proofs
def pr_a1 : Option (List Fu) := some [⟨0, 1, 1, some [⟨0, 1, 0⟩, ⟨13, 1, 0⟩, ⟨14, 0, 0⟩, ⟨15, 0, 0⟩]⟩, ⟨1, 1, 0, some [⟨1, 0, 0⟩, ⟨15, 0, 0⟩]⟩]
def tx_a1 : ByteArray := ⟨#[102, 117, 110, 99, 32, 48, 32, 49, 32, 49, 10, 112, 117, 115, 104, 32, 49, 32, 48, 10, 115, 112, 97, 119, 110, 32, 49, 32, 48, 10, 106, 111, 105, 110, 32, 48, 10, 114, 101, 116, 10, 102, 117, 110, 99, 32, 49, 32, 49, 32, 48, 10, 108, 111, 97, 100, 32, 48, 10, 114, 101, 116, 10]⟩
theorem pa_a1_k : beqo (fnc Try.prog cfg (exec Try.prog cfg 200) 22 [.str tx_a1]) (some (encProg pr_a1)) = true := by decide +kernel
theorem pa_a1 : fnc Try.prog cfg R 22 [.str tx_a1] = some (encProg pr_a1) := eval_k 200 pa_a1_k
def pr_a6 : Option (List Fu) := some [⟨0, 0, 0, some [⟨0, 0, 0⟩]⟩]
def tx_a6 : ByteArray := ⟨#[102, 117, 110, 99, 32, 48, 32, 48, 32, 48, 10, 112, 117, 115, 104, 32, 48, 32, 48, 10]⟩
theorem pa_a6_k : beqo (fnc Try.prog cfg (exec Try.prog cfg 200) 22 [.str tx_a6]) (some (encProg pr_a6)) = true := by decide +kernel
theorem pa_a6 : fnc Try.prog cfg R 22 [.str tx_a6] = some (encProg pr_a6) := eval_k 200 pa_a6_k
def pr_a7 : Option (List Fu) := some [⟨0, 0, 0, some [⟨16, 16, 0⟩, ⟨3, 0, 0⟩]⟩, ⟨0, 0, 0, some [⟨9, 0, 0⟩]⟩]
def tx_a7 : ByteArray := ⟨#[102, 117, 110, 99, 32, 48, 32, 48, 32, 48, 10, 116, 114, 97, 112, 32, 49, 54, 10, 97, 100, 100, 10, 102, 117, 110, 99, 32, 48, 32, 48, 32, 48, 10, 100, 114, 111, 112, 10]⟩
theorem pa_a7_k : beqo (fnc Try.prog cfg (exec Try.prog cfg 200) 22 [.str tx_a7]) (some (encProg pr_a7)) = true := by decide +kernel
theorem pa_a7 : fnc Try.prog cfg R 22 [.str tx_a7] = some (encProg pr_a7) := eval_k 200 pa_a7_k
def pr_a8 : Option (List Fu) := none
def tx_a8 : ByteArray := ⟨#[]⟩
theorem pa_a8_k : beqo (fnc Try.prog cfg (exec Try.prog cfg 200) 22 [.str tx_a8]) (some (encProg pr_a8)) = true := by decide +kernel
theorem pa_a8 : fnc Try.prog cfg R 22 [.str tx_a8] = some (encProg pr_a8) := eval_k 200 pa_a8_k
def pr_a9 : Option (List Fu) := some [⟨0, 0, 0, some [⟨0, 0, 0⟩, ⟨10, 0, 0⟩]⟩]
def tx_a9 : ByteArray := ⟨#[102, 117, 110, 99, 32, 48, 32, 48, 32, 48, 10, 112, 117, 115, 104, 32, 48, 32, 48, 10, 106, 117, 109, 112, 32, 48, 10]⟩
theorem pa_a9_k : beqo (fnc Try.prog cfg (exec Try.prog cfg 200) 22 [.str tx_a9]) (some (encProg pr_a9)) = true := by decide +kernel
theorem pa_a9 : fnc Try.prog cfg R 22 [.str tx_a9] = some (encProg pr_a9) := eval_k 200 pa_a9_k
def pr_b1 : Option (List Fu) := some [⟨0, 0, 0, some [⟨0, 1, 0⟩, ⟨15, 0, 0⟩, ⟨3, 0, 0⟩]⟩]
def tx_b1 : ByteArray := ⟨#[102, 117, 110, 99, 32, 48, 32, 48, 32, 48, 10, 112, 117, 115, 104, 32, 49, 32, 48, 10, 114, 101, 116, 10, 97, 100, 100, 10]⟩
theorem pa_b1_k : beqo (fnc Try.prog cfg (exec Try.prog cfg 200) 22 [.str tx_b1]) (some (encProg pr_b1)) = true := by decide +kernel
theorem pa_b1 : fnc Try.prog cfg R 22 [.str tx_b1] = some (encProg pr_b1) := eval_k 200 pa_b1_k
end Go.Proofs.YtcbmmiglccmekaaW.Rg
