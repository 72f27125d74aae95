/- Texts of the fixed calls of layer 10, as programs. No conditions. -/
import Derived.Test.YtlpadffinfijgaaVmQA
set_option linter.unusedVariables false
set_option linter.unusedSimpArgs false
set_option maxRecDepth 1000000
namespace Go.Proofs.YtlpadffinfijgaaW.Rg
open Go.Proofs.YtlpadffinfijgaaW.Vm Go.Proofs.YtlpadffinfijgaaW.Md
open Go Go.Proofs
def pr_x1 : Option (List Fu) := some [⟨1, 1, 2, some [⟨1, 0, 0⟩, ⟨13, 1, 0⟩, ⟨1, 0, 0⟩, ⟨13, 1, 1⟩, ⟨14, 0, 0⟩, ⟨14, 1, 0⟩, ⟨4, 0, 0⟩, ⟨15, 0, 0⟩]⟩, ⟨1, 1, 0, some [⟨1, 0, 0⟩, ⟨1, 0, 0⟩, ⟨5, 0, 0⟩, ⟨15, 0, 0⟩]⟩]
def tx_x1 : ByteArray := ⟨#[102, 117, 110, 99, 32, 49, 32, 49, 32, 50, 10, 108, 111, 97, 100, 32, 48, 10, 115, 112, 97, 119, 110, 32, 49, 32, 48, 10, 108, 111, 97, 100, 32, 48, 10, 115, 112, 97, 119, 110, 32, 49, 32, 49, 10, 106, 111, 105, 110, 32, 48, 10, 106, 111, 105, 110, 32, 49, 10, 115, 117, 98, 10, 114, 101, 116, 10, 102, 117, 110, 99, 32, 49, 32, 49, 32, 48, 10, 108, 111, 97, 100, 32, 48, 10, 108, 111, 97, 100, 32, 48, 10, 109, 117, 108, 10, 114, 101, 116, 10]⟩
theorem pa_x1_k : beqo (fnc Try.prog cfg (exec Try.prog cfg 200) 15 [.str tx_x1]) (some (encProg pr_x1)) = true := by decide +kernel
theorem pa_x1 : fnc Try.prog cfg R 15 [.str tx_x1] = some (encProg pr_x1) := eval_k 200 pa_x1_k
def pr_x2 : Option (List Fu) := some [⟨0, 0, 2, some [⟨13, 1, 1⟩, ⟨13, 1, 0⟩, ⟨0, 1, 0⟩, ⟨15, 0, 0⟩]⟩, ⟨0, 0, 0, some [⟨16, 20, 0⟩]⟩]
def tx_x2 : ByteArray := ⟨#[102, 117, 110, 99, 32, 48, 32, 48, 32, 50, 10, 115, 112, 97, 119, 110, 32, 49, 32, 49, 10, 115, 112, 97, 119, 110, 32, 49, 32, 48, 10, 112, 117, 115, 104, 32, 49, 32, 48, 10, 114, 101, 116, 10, 102, 117, 110, 99, 32, 48, 32, 48, 32, 48, 10, 116, 114, 97, 112, 32, 50, 48, 10]⟩
theorem pa_x2_k : beqo (fnc Try.prog cfg (exec Try.prog cfg 200) 15 [.str tx_x2]) (some (encProg pr_x2)) = true := by decide +kernel
theorem pa_x2 : fnc Try.prog cfg R 15 [.str tx_x2] = some (encProg pr_x2) := eval_k 200 pa_x2_k
def pr_x3 : Option (List Fu) := some [⟨0, 0, 0, some [⟨12, 0, 0⟩, ⟨15, 0, 0⟩]⟩]
def tx_x3 : ByteArray := ⟨#[102, 117, 110, 99, 32, 48, 32, 48, 32, 48, 10, 114, 97, 110, 100, 10, 114, 101, 116, 10]⟩
theorem pa_x3_k : beqo (fnc Try.prog cfg (exec Try.prog cfg 200) 15 [.str tx_x3]) (some (encProg pr_x3)) = true := by decide +kernel
theorem pa_x3 : fnc Try.prog cfg R 15 [.str tx_x3] = some (encProg pr_x3) := eval_k 200 pa_x3_k
theorem ev_x1 : evS (pr_x1.getD []) [⟨3, 1⟩] 1 100 = (o0, 16, 0) := by decide +kernel
theorem ev_x1b : evS (pr_x1.getD []) [⟨3, 0⟩] 1 15 = (o0, 0, 100) := by decide +kernel
theorem ev_x1c : evS (pr_x1.getD []) [] 1 100 = (o0, 0, 1) := by decide +kernel
theorem ev_x2 : evS (pr_x2.getD []) [] 1 6 = (⟨20, v0⟩, 6, 0) := by decide +kernel
end Go.Proofs.YtlpadffinfijgaaW.Rg
