/- What FrameTells is given. No conditions. -/
import Derived.Test.YtghidjgejmmcmaaGreatVmDD
set_option linter.unusedVariables false
set_option linter.unusedSimpArgs false
set_option maxRecDepth 100000
namespace Go.Proofs.YtghidjgejmmcmaaGreatW.Rg
open Go.Proofs.YtghidjgejmmcmaaGreatW.Vm Go.Proofs.YtghidjgejmmcmaaGreatW.Md
open Go Go.Proofs
theorem wf_le {n : Int} (h : (Lit.int .i64 n).wf = true) : n ≤ 2 ^ 63 - 1 := by
  simp only [Lit.wf, Bool.and_eq_true, decide_eq_true_eq] at h
  have : IntKind.i64.max = 2 ^ 63 - 1 := rfl
  omega
theorem dec_func3 {k : Nat} {ds : List D} (h : HasT Tryz.prog (k + 4) 53 ds) : ∃ f : Fu, toD Tryz.prog 53 ds = encFunc f ∧ (f.c.length < 2 ^ 63 ∧ f.c.length * 24 ≤ 2 ^ 47 ∧ f.arity ≤ 2 ^ 63 - 1) := by
  have hml : maxLen = 2 ^ 63 - 1 := rfl
  unfold HasT at h; rw [Tryz.underlying53] at h
  obtain ⟨a, _, rfl, h1, b, _, rfl, h2, c, _, rfl, h3, d, _, rfl, h4, rfl⟩ := h
  obtain ⟨n, rfl, hw⟩ := dec_int h1
  obtain ⟨m, rfl, _⟩ := dec_int h2
  obtain ⟨l, rfl, _⟩ := dec_int h3
  obtain ⟨q, rfl, hq, hq2⟩ := dec_code h4
  exact ⟨⟨n, m, l, q⟩, by unfold toD; rw [Tryz.underlying53]; rfl, by show (q.getD []).length < _; omega, hq2, wf_le hw⟩
theorem dec_prog3 {k : Nat} {ds : List D} (h : HasT Tryz.prog (k + 5) 23 ds) : ∃ p : Option (List Fu), ds = [encProg p] ∧ Bnd (p.getD []) ∧ (∀ f ∈ p.getD [], f.c.length * 24 ≤ 2 ^ 47) ∧ ∀ f ∈ p.getD [], f.arity ≤ 2 ^ 63 - 1 := by
  have hml : maxLen = 2 ^ 63 - 1 := rfl
  unfold HasT at h; rw [un23] at h
  rcases h with rfl | ⟨ys, rfl, hl, hsz, hy⟩
  · exact ⟨none, rfl, ⟨by simp, by simp⟩, by simp, by simp⟩
  · obtain ⟨rs, hrs, hp⟩ := dec_list encFunc (toD Tryz.prog 53) (HasT Tryz.prog (k + 4) 53) (fun f => f.c.length < 2 ^ 63 ∧ f.c.length * 24 ≤ 2 ^ 47 ∧ f.arity ≤ 2 ^ 63 - 1) (fun y hy => dec_func3 hy) ys hy
    refine ⟨some rs, ?_, ⟨?_, fun f hf => (hp f hf).1⟩, fun f hf => (hp f hf).2.1, fun f hf => (hp f hf).2.2⟩
    · rw [hrs]; rfl
    · have := congrArg List.length hrs
      simp at this
      have hl' : rs.length ≤ maxLen := by rw [← this]; exact hl
      show rs.length < _
      omega
theorem dec_told {k : Nat} {ds : List D} (h : HasT Tryz.prog (k + 4) 35 ds) : ∃ (sl fn sd : Int) (o : Ou) (args : Option (List Vl)), toD Tryz.prog 35 ds = .agg [I sl, I o.trap, I o.v.re, I o.v.im, I fn, encL 2 encV args, I sd] := by
  unfold HasT at h; rw [Tryz.underlying35] at h
  obtain ⟨a1, _, rfl, h1, a2, _, rfl, h2, a3, _, rfl, h3, a4, _, rfl, h4, a5, _, rfl, h5, rfl⟩ := h
  obtain ⟨sl, rfl, _⟩ := dec_int h1
  obtain ⟨o, rfl⟩ := dec_ouc h2
  obtain ⟨fn, rfl, _⟩ := dec_int h3
  obtain ⟨b, rfl, _⟩ := dec_vals h4
  obtain ⟨sd, rfl, _⟩ := dec_int h5
  exact ⟨sl, fn, sd, o, b, by unfold toD; rw [Tryz.underlying35]; rfl⟩
end Go.Proofs.YtghidjgejmmcmaaGreatW.Rg
