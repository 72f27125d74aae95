import Derived.Test.YtclfpfdpaigdiaaVmR10
import Derived.Test.YtclfpfdpaigdiaaVmLay
set_option linter.unusedVariables false
set_option linter.unusedSimpArgs false
namespace Go.Proofs.YtclfpfdpaigdiaaW.Rg
open Go.Proofs.YtclfpfdpaigdiaaW.Vm
open Go Go.Proofs
theorem dec_int {k : Nat} {ds : List D} (h : HasT Try.prog (k + 1) 3 ds) : ∃ n, ds = [I n] ∧ (Lit.int .i64 n).wf = true := by
  unfold HasT at h; rw [un3] at h; exact h
theorem dec_ref {k : Nat} {ds : List D} (h : HasT Try.prog (k + 2) 33 ds) : ∃ r : Ref, toD Try.prog 33 ds = encRef r := by
  unfold HasT at h; rw [Try.underlying33] at h
  obtain ⟨a, b, rfl, h1, c, d, rfl, h2, rfl⟩ := h
  obtain ⟨n, rfl, _⟩ := dec_int h1
  obtain ⟨m, rfl, _⟩ := dec_int h2
  exact ⟨⟨n, m⟩, by unfold toD; rw [Try.underlying33]; rfl⟩
theorem dec_list {α : Type} (enc : α → D) (f : List D → D) (T : List D → Prop) (h : ∀ y, T y → ∃ r, f y = enc r) : ∀ ys : List (List D), (∀ y ∈ ys, T y) → ∃ rs : List α, ys.map f = rs.map enc
  | [], _ => ⟨[], rfl⟩
  | y :: ys, hy => by
    obtain ⟨r, hr⟩ := h y (hy y (by simp))
    obtain ⟨rs, hrs⟩ := dec_list enc f T h ys fun z hz => hy z (by simp [hz])
    exact ⟨r :: rs, by simp [hr, hrs]⟩
theorem dec_refs {k : Nat} {ds : List D} (h : HasT Try.prog (k + 3) 22 ds) : ∃ b : Option (List Ref), ds = [encS b] ∧ (b.getD []).length ≤ maxLen := by
  unfold HasT at h; rw [un22] at h
  rcases h with rfl | ⟨ys, rfl, hl, hsz, hy⟩
  · exact ⟨none, rfl, by simp⟩
  · obtain ⟨rs, hrs⟩ := dec_list encRef (toD Try.prog 33) (HasT Try.prog (k + 2) 33) (fun y hy => dec_ref hy) ys hy
    refine ⟨some rs, ?_, ?_⟩
    · rw [hrs]; rfl
    · have := congrArg List.length hrs
      simp at this
      simpa [← this] using hl
theorem dec_ring {k : Nat} {ds : List D} (h : HasT Try.prog (k + 4) 24 ds) : ∃ r : Ring, toD Try.prog 24 ds = encRing r ∧ r.l.length ≤ maxLen := by
  unfold HasT at h; rw [Try.underlying24] at h
  obtain ⟨a, _, rfl, h1, b, _, rfl, h2, c, _, rfl, h3, d, _, rfl, h4, rfl⟩ := h
  obtain ⟨l, rfl, hl⟩ := dec_refs h1
  obtain ⟨x, rfl, _⟩ := dec_int h2
  obtain ⟨y, rfl, _⟩ := dec_int h3
  obtain ⟨z, rfl, _⟩ := dec_int h4
  exact ⟨⟨l, x, y, z⟩, by unfold toD; rw [Try.underlying24]; rfl, hl⟩
theorem dec_two {k : Nat} {ds : List D} (h : HasT Try.prog (k + 2) 25 ds) : ∃ n m : Int, toD Try.prog 25 ds = .agg [I n, I m] := by
  unfold HasT at h; rw [Try.underlying25] at h
  obtain ⟨a, _, rfl, h1, b, _, rfl, h2, rfl⟩ := h
  obtain ⟨n, rfl, _⟩ := dec_int h1
  obtain ⟨m, rfl, _⟩ := dec_int h2
  exact ⟨n, m, by unfold toD; rw [Try.underlying25]; rfl⟩
theorem ext_ok : ExtOk Try.prog cfg := ⟨fun f g hg => by cases hg⟩
end Go.Proofs.YtclfpfdpaigdiaaW.Rg
