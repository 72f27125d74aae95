/- The document's reading of texts: a line that traps, a function's line. No conditions. -/
import Derived.Test.YtlpadffinfijgaaVmTS1
import Derived.KernelRfl
set_option linter.unusedVariables false
set_option linter.unusedSimpArgs false
set_option maxRecDepth 100000
namespace Go.Proofs.YtlpadffinfijgaaW.Rg
open Go.Proofs.YtlpadffinfijgaaW.Vm Go.Proofs.YtlpadffinfijgaaW.Md
open Go Go.Proofs
def digL (a : Nat) : List UInt8 := if a < 10 then [UInt8.ofNat (48 + a)] else if a < 100 then [UInt8.ofNat (48 + a / 10), UInt8.ofNat (48 + a % 10)] else [UInt8.ofNat (48 + a / 100), UInt8.ofNat (48 + a / 10 % 10), UInt8.ofNat (48 + a % 10)]
def trapL (a : Nat) : List UInt8 := [116, 114, 97, 112, 32] ++ digL a
def funcL : List UInt8 := [102, 117, 110, 99, 32, 48, 32, 48, 32, 48]
theorem trap_split : ∀ k : Fin 256, splitL 32 (trapL k.val) [] = [[116, 114, 97, 112], digL k.val] := by decide +kernel
theorem func_split : splitL 32 funcL [] = [[102, 117, 110, 99], [48], [48], [48]] := by decide +kernel
theorem num_k : ∀ k : Fin 256, beqo (fnc Try.prog cfg (exec Try.prog cfg 100) 72 [.str (bstr (digL k.val))]) (some (I k.val)) = true := by decide +kernel
theorem num_spec {a : Nat} (h : a < 256) : fnc Try.prog cfg R 72 [.str (bstr (digL a))] = some (I a) := eval_k 100 (num_k ⟨a, h⟩)
theorem dig_k : ∀ k : Fin 256, beqo (fnc Try.prog cfg (exec Try.prog cfg 100) 17 [I k.val]) (some (.str (bstr (digL k.val)))) = true := by decide +kernel
theorem dig_spec {a : Nat} (h : a < 256) : fnc Try.prog cfg R 17 [I a] = some (.str (bstr (digL a))) := eval_k 100 (dig_k ⟨a, h⟩)
theorem find_k : beqo (fnc Try.prog cfg (exec Try.prog cfg 200) 73 [.str (bstr [116, 114, 97, 112])]) (some (I 16)) = true := by decide +kernel
theorem find_trap : fnc Try.prog cfg R 73 [.str (bstr [116, 114, 97, 112])] = some (I 16) := eval_k 200 find_k
theorem zero_k : beqo (fnc Try.prog cfg (exec Try.prog cfg 200) 72 [.str (bstr [48])]) (some (I 0)) = true := by decide +kernel
theorem num_zero : fnc Try.prog cfg R 72 [.str (bstr [48])] = some (I 0) := eval_k 200 zero_k
theorem eq_tf (x y : Operand) : binD Try.prog .eql 9 x y (.str (bstr [116, 114, 97, 112])) (.str ⟨#[102, 117, 110, 99]⟩) = some (.bool false) := by
  cases x <;> cases y <;> kernel_rfl
theorem eq_ff (x y : Operand) : binD Try.prog .eql 9 x y (.str (bstr [102, 117, 110, 99])) (.str ⟨#[102, 117, 110, 99]⟩) = some (.bool true) := by
  cases x <;> cases y <;> kernel_rfl
end Go.Proofs.YtlpadffinfijgaaW.Rg
