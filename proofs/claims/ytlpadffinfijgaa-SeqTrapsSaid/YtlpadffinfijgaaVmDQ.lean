/- What a law of layer 10 is given. No conditions. -/
import Derived.Test.YtlpadffinfijgaaVmDD
set_option linter.unusedVariables false
set_option linter.unusedSimpArgs false
set_option maxRecDepth 100000
namespace Go.Proofs.YtlpadffinfijgaaW.Rg
open Go.Proofs.YtlpadffinfijgaaW.Vm Go.Proofs.YtlpadffinfijgaaW.Md
open Go Go.Proofs
theorem dec_input {k : Nat} {ds : List D} (h : HasT Try.prog (k + 6) 26 ds) : ∃ (p : Option (List Fu)) (a : Option (List Vl)) (s : Int), toD Try.prog 26 ds = .agg [encProg p, encL 2 encV a, I s] ∧ Bnd (p.getD []) ∧
    (∀ f ∈ p.getD [], f.c.length * 24 ≤ 2 ^ 47) ∧ (a.getD []).length < 2 ^ 47 := by
  unfold HasT at h; rw [Try.underlying26] at h
  obtain ⟨a, _, rfl, h1, b, _, rfl, h2, c, _, rfl, h3, rfl⟩ := h
  obtain ⟨p, rfl, hb, hz⟩ := dec_prog2 h1
  obtain ⟨v, rfl, hv⟩ := dec_vals (k := k + 2) h2
  obtain ⟨n, rfl, _⟩ := dec_int (k := k + 4) h3
  exact ⟨p, v, n, by unfold toD; rw [Try.underlying26]; rfl, hb, hz, hv⟩
end Go.Proofs.YtlpadffinfijgaaW.Rg
