/- Texts of the fixed calls of layer 8, as programs. No conditions. -/
import Derived.Test.YtcbmmiglccmekaaVmE
set_option linter.unusedVariables false
set_option linter.unusedSimpArgs false
set_option maxRecDepth 1000000
namespace Go.Proofs.YtcbmmiglccmekaaW.Rg
open Go.Proofs.YtcbmmiglccmekaaW.Vm Go.Proofs.YtcbmmiglccmekaaW.Md
open Go Go.Proofs
def pr_good : Option (List Fu) := some [⟨0, 1, 1, some [⟨0, 1, 0⟩, ⟨13, 1, 0⟩, ⟨14, 0, 0⟩, ⟨8, 0, 0⟩, ⟨11, 6, 0⟩, ⟨2, 0, 0⟩, ⟨10, 4, 0⟩]⟩, ⟨1, 1, 0, some [⟨1, 0, 0⟩, ⟨15, 0, 0⟩]⟩]
def tx_good : ByteArray := ⟨#[102, 117, 110, 99, 32, 48, 32, 49, 32, 49, 10, 112, 117, 115, 104, 32, 49, 32, 48, 10, 115, 112, 97, 119, 110, 32, 49, 32, 48, 10, 106, 111, 105, 110, 32, 48, 10, 100, 117, 112, 10, 122, 101, 114, 111, 32, 54, 10, 115, 116, 111, 114, 101, 32, 48, 10, 106, 117, 109, 112, 32, 52, 10, 102, 117, 110, 99, 32, 49, 32, 49, 32, 48, 10, 108, 111, 97, 100, 32, 48, 10, 114, 101, 116, 10]⟩
theorem pa_good_k : beqo (fnc Try.prog cfg (exec Try.prog cfg 200) 22 [.str tx_good]) (some (encProg pr_good)) = true := by decide +kernel
theorem pa_good : fnc Try.prog cfg R 22 [.str tx_good] = some (encProg pr_good) := eval_k 200 pa_good_k
def pr_a2 : Option (List Fu) := some [⟨2, 1, 0, some [⟨15, 0, 0⟩]⟩]
def tx_a2 : ByteArray := ⟨#[102, 117, 110, 99, 32, 50, 32, 49, 32, 48, 10, 114, 101, 116, 10]⟩
theorem pa_a2_k : beqo (fnc Try.prog cfg (exec Try.prog cfg 200) 22 [.str tx_a2]) (some (encProg pr_a2)) = true := by decide +kernel
theorem pa_a2 : fnc Try.prog cfg R 22 [.str tx_a2] = some (encProg pr_a2) := eval_k 200 pa_a2_k
def pr_a3 : Option (List Fu) := some [⟨0, 0, 0, some [⟨0, 0, 0⟩, ⟨1, 0, 0⟩]⟩]
def tx_a3 : ByteArray := ⟨#[102, 117, 110, 99, 32, 48, 32, 48, 32, 48, 10, 112, 117, 115, 104, 32, 48, 32, 48, 10, 108, 111, 97, 100, 32, 48, 10]⟩
theorem pa_a3_k : beqo (fnc Try.prog cfg (exec Try.prog cfg 200) 22 [.str tx_a3]) (some (encProg pr_a3)) = true := by decide +kernel
theorem pa_a3 : fnc Try.prog cfg R 22 [.str tx_a3] = some (encProg pr_a3) := eval_k 200 pa_a3_k
def pr_a4 : Option (List Fu) := some [⟨0, 0, 0, some [⟨10, 1, 0⟩]⟩]
def tx_a4 : ByteArray := ⟨#[102, 117, 110, 99, 32, 48, 32, 48, 32, 48, 10, 106, 117, 109, 112, 32, 49, 10]⟩
theorem pa_a4_k : beqo (fnc Try.prog cfg (exec Try.prog cfg 200) 22 [.str tx_a4]) (some (encProg pr_a4)) = true := by decide +kernel
theorem pa_a4 : fnc Try.prog cfg R 22 [.str tx_a4] = some (encProg pr_a4) := eval_k 200 pa_a4_k
def pr_a5 : Option (List Fu) := some [⟨0, 0, 0, some [⟨15, 0, 0⟩]⟩]
def tx_a5 : ByteArray := ⟨#[102, 117, 110, 99, 32, 48, 32, 48, 32, 48, 10, 114, 101, 116, 10]⟩
theorem pa_a5_k : beqo (fnc Try.prog cfg (exec Try.prog cfg 200) 22 [.str tx_a5]) (some (encProg pr_a5)) = true := by decide +kernel
theorem pa_a5 : fnc Try.prog cfg R 22 [.str tx_a5] = some (encProg pr_a5) := eval_k 200 pa_a5_k
end Go.Proofs.YtcbmmiglccmekaaW.Rg
