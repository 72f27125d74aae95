/- What a law is given, as frames and ends. No conditions. -/
import Derived.Test.YtghidjgejmmcmaaVmDD
set_option linter.unusedVariables false
set_option linter.unusedSimpArgs false
set_option maxRecDepth 100000
namespace Go.Proofs.YtghidjgejmmcmaaW.Rg
open Go.Proofs.YtghidjgejmmcmaaW.Vm Go.Proofs.YtghidjgejmmcmaaW.Md
open Go Go.Proofs
theorem dec_two {k : Nat} {ds : List D} (h : HasT Try.prog (k + 2) 56 ds) : ∃ n m : Int, toD Try.prog 56 ds = .agg [I n, I m] := by
  unfold HasT at h; rw [Try.underlying56] at h
  obtain ⟨a, _, rfl, h1, b, _, rfl, h2, rfl⟩ := h
  obtain ⟨n, rfl, _⟩ := dec_int h1
  obtain ⟨m, rfl, _⟩ := dec_int h2
  exact ⟨n, m, by unfold toD; rw [Try.underlying56]; rfl⟩
theorem dec_outs2 {k : Nat} {ds : List D} (h : HasT Try.prog (k + 4) 57 ds) : ∃ n m : Ou, toD Try.prog 57 ds = .agg [I n.trap, I n.v.re, I n.v.im, I m.trap, I m.v.re, I m.v.im] := by
  unfold HasT at h; rw [Try.underlying57] at h
  obtain ⟨a, _, rfl, h1, b, _, rfl, h2, rfl⟩ := h
  obtain ⟨n, rfl⟩ := dec_ouc h1
  obtain ⟨m, rfl⟩ := dec_ouc h2
  exact ⟨n, m, by unfold toD; rw [Try.underlying57]; rfl⟩
theorem dec_outs {k : Nat} {ds : List D} (h : HasT Try.prog (k + 4) 24 ds) : ∃ b : Option (List Ou), ds = [encL 3 encO b] ∧ (b.getD []).length < 2 ^ 47 := by
  have hb : Try.prog.bytesOf 36 = 24 := by kernel_rfl
  have hrb := reachBytes_lt
  unfold HasT at h; rw [un24] at h
  rcases h with rfl | ⟨ys, rfl, hl, hsz, hy⟩
  · exact ⟨none, rfl, by simp⟩
  · obtain ⟨rs, hrs, _⟩ := dec_list encO (toD Try.prog 36) (HasT Try.prog (k + 3) 36) (fun _ => True) (fun y hy => by obtain ⟨v, rfl⟩ := dec_ouc hy; exact ⟨v, toD_out v, trivial⟩) ys hy
    have hlen := congrArg List.length hrs
    simp only [List.length_map] at hlen
    refine ⟨some rs, by rw [hrs]; rfl, ?_⟩
    rw [Option.getD_some, ← hlen]; rw [hb] at hsz; omega
theorem toD_outs (b : Option (List Ou)) : toD Try.prog 24 [encL 3 encO b] = encL 3 encO b := by unfold toD; rw [un24]; rfl
end Go.Proofs.YtghidjgejmmcmaaW.Rg
