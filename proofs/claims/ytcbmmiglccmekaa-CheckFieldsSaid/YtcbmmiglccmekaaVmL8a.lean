/- What is wrong with a program, and where, is as the document says. No conditions. -/
import Derived.Test.YtcbmmiglccmekaaVmA10
import Derived.Test.YtcbmmiglccmekaaVmFx8
set_option linter.unusedVariables false
set_option linter.unusedSimpArgs false
namespace Go.Proofs.YtcbmmiglccmekaaW.Rg
open Go.Proofs.YtcbmmiglccmekaaW.Vm Go.Proofs.YtcbmmiglccmekaaW.Md
open Go Go.Proofs
theorem depths_len (p : List Fu) (fn : Int) : (depths p fn).length ≤ 200 := by
  unfold depths
  split
  · rename_i h
    split
    · rename_i f hf
      obtain ⟨hm, _⟩ := good_iff.1 h.1
      have hfm := List.mem_of_getElem? hf
      obtain ⟨_, hfin⟩ := good_fin h.1 hfm
      have := fmay_len (mayP_f hm hfm)
      rw [hfin.len, shapes_len]; omega
    · simp
  · simp
/-- the depths, as the code tells them -/
def depO (p : List Fu) (fn : Int) : Option (List Int) := if good p = true ∧ 0 ≤ fn ∧ fn < p.length then some (depths p fn) else none
theorem depO_get (p : List Fu) (fn : Int) : (depO p fn).getD [] = depths p fn := by
  unfold depO
  split
  · rfl
  · rename_i h
    cases hg : good p with
    | false => rw [depths_bad hg]; rfl
    | true =>
      have h2 : fn < 0 ∨ (p.length : Int) ≤ fn := by
        by_cases h0 : 0 ≤ fn
        · right; exact Int.not_lt.1 fun h1 => h ⟨hg, h0, h1⟩
        · left; omega
      rw [depths_out h2]; rfl
theorem tells8_law (p : Option (List Fu)) (hb : Bnd (p.getD [])) (fn : Int) : fnc Try.prog cfg R 3 [encProg p, I fn] = some (.bool true) := by
  rw [fnc_at rfl, body_eq Try.func3 rfl rfl]
  have hS := small_spec p 300
  cases hs : small (p.getD []) 300 with
  | false =>
    rw [hs] at hS
    simp [argsσ, Vm.results, hS, fixed8]
  | true =>
    rw [hs] at hS
    have h1 := check_spec p hb.len
    have h2 := rcheck_spec p hb
    have h3 := depths_spec p hb.len fn
    have h4 := rdepths_spec p hb fn
    rw [show (if good (p.getD []) = true ∧ 0 ≤ fn ∧ fn < (p.getD []).length then some (depths (p.getD []) fn) else none) = depO (p.getD []) fn from rfl] at h3 h4
    have h5 := ints_spec (depO (p.getD []) fn) (depO (p.getD []) fn) (by rw [depO_get]; have := depths_len (p.getD []) fn; omega)
    simp at h5
    simp [argsσ, Vm.results, hS, fixed8, h1, h2, h3, h4, h5]
end Go.Proofs.YtcbmmiglccmekaaW.Rg
