/- The fixed calls of layer 8. No conditions. -/
import Derived.Test.YtcbmmiglccmekaaVmA10
import Derived.Test.YtcbmmiglccmekaaVmFx8b
set_option linter.unusedVariables false
set_option linter.unusedSimpArgs false
set_option maxRecDepth 100000
namespace Go.Proofs.YtcbmmiglccmekaaW.Rg
open Go.Proofs.YtcbmmiglccmekaaW.Vm Go.Proofs.YtcbmmiglccmekaaW.Md
open Go Go.Proofs
theorem wrong8 {s : ByteArray} {p : Option (List Fu)} (h : fnc Try.prog cfg R 22 [.str s] = some (encProg p)) (hl : (p.getD []).length < 2 ^ 63) {fn at_ e : Int} (hc : check (p.getD []) = (fn, at_, e)) :
    fnc Try.prog cfg R 21 [.str s, I fn, I at_, I e] = some (.bool true) := by
  have hC := check_spec p hl
  rw [hc] at hC
  rw [fnc_at rfl, body_eq Try.func21 rfl rfl]
  simp [argsσ, Vm.results, h, hC]
theorem fixed8 : fnc Try.prog cfg R 10 [] = some (.bool true) := by
  have w1 := wrong8 pa_a1 (by decide) (fn := 0) (at_ := 0) (e := 0) (by decide +kernel)
  have w2 := wrong8 pa_good (by decide) (fn := 0) (at_ := 5) (e := 84) (by decide +kernel)
  have w3 := wrong8 pa_a2 (by decide) (fn := 0) (at_ := 0) (e := 80) (by decide +kernel)
  have w4 := wrong8 pa_a3 (by decide) (fn := 0) (at_ := 1) (e := 82) (by decide +kernel)
  have w5 := wrong8 pa_a4 (by decide) (fn := 0) (at_ := 0) (e := 83) (by decide +kernel)
  have w6 := wrong8 pa_a5 (by decide) (fn := 0) (at_ := 0) (e := 84) (by decide +kernel)
  have w7 := wrong8 pa_a6 (by decide) (fn := 0) (at_ := 0) (e := 81) (by decide +kernel)
  have w8 := wrong8 pa_a7 (by decide) (fn := 1) (at_ := 0) (e := 84) (by decide +kernel)
  have w9 := wrong8 pa_a8 (by decide) (fn := 0) (at_ := 0) (e := 1) (by decide +kernel)
  have w10 := wrong8 pa_a9 (by decide) (fn := 0) (at_ := 1) (e := 84) (by decide +kernel)
  have d1 := depths_spec pr_b1 (by decide) 0
  rw [if_pos (by decide +kernel), show depths (pr_b1.getD []) 0 = [0, 1, -1] by decide +kernel] at d1
  have d2 := depths_spec none (by decide) 0
  rw [if_neg (by decide +kernel)] at d2
  have hI := ints_spec (some [0, 1, -1]) (some [0, 1, -1]) (by decide)
  have hb1 := pa_b1
  have hbs := fun dst ty pos af g st ps => op_bslice (P := Try.prog) (cfg := cfg) (run := R) dst ty pos af g st (z := 0) (n := 3) ps el30 sz3 ag3 ze3 rfl (by simp) (by decide) (by decide)
  rw [fnc_at rfl, body_eq Try.func10 rfl rfl]
  simp only [tx_a1, tx_good, tx_a2, tx_a3, tx_a4, tx_a5, tx_a6, tx_a7, tx_a8, tx_a9, tx_b1] at w1 w2 w3 w4 w5 w6 w7 w8 w9 w10 hb1
  simp [encL] at d2 hI
  simp [encL, argsσ, Vm.results, w1, w2, w3, w4, w5, w6, w7, w8, w9, w10, d1, d2, hI, hb1, hbs, exp_own, elsOf_own, retK_flat]

end Go.Proofs.YtcbmmiglccmekaaW.Rg
