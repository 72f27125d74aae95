/- What a law is given, as frames and ends. No conditions. -/
import Derived.Test.YtghidjgejmmcmaaVmD8
import Derived.Test.YtghidjgejmmcmaaVmG10
set_option linter.unusedVariables false
set_option linter.unusedSimpArgs false
set_option maxRecDepth 100000
namespace Go.Proofs.YtghidjgejmmcmaaW.Rg
open Go.Proofs.YtghidjgejmmcmaaW.Vm Go.Proofs.YtghidjgejmmcmaaW.Md
open Go Go.Proofs
theorem dec_vlc {k : Nat} {ds : List D} (h : HasT Try.prog (k + 2) 33 ds) : ∃ v : Vl, ds = [I v.re, I v.im] := by
  unfold HasT at h; rw [Try.underlying33] at h
  obtain ⟨a, _, rfl, h1, b, _, rfl, h2, rfl⟩ := h
  obtain ⟨n, rfl, _⟩ := dec_int h1
  obtain ⟨m, rfl, _⟩ := dec_int h2
  exact ⟨⟨n, m⟩, rfl⟩
theorem dec_rfc {k : Nat} {ds : List D} (h : HasT Try.prog (k + 2) 38 ds) : ∃ v : Rf, ds = [I v.ag, I v.gen] := by
  unfold HasT at h; rw [Try.underlying38] at h
  obtain ⟨a, _, rfl, h1, b, _, rfl, h2, rfl⟩ := h
  obtain ⟨n, rfl, _⟩ := dec_int h1
  obtain ⟨m, rfl, _⟩ := dec_int h2
  exact ⟨⟨n, m⟩, rfl⟩
theorem dec_ouc {k : Nat} {ds : List D} (h : HasT Try.prog (k + 3) 36 ds) : ∃ o : Ou, ds = [I o.trap, I o.v.re, I o.v.im] := by
  unfold HasT at h; rw [Try.underlying36] at h
  obtain ⟨a, _, rfl, h1, b, _, rfl, h2, rfl⟩ := h
  obtain ⟨n, rfl, _⟩ := dec_int h1
  obtain ⟨v, rfl⟩ := dec_vlc h2
  exact ⟨⟨n, v⟩, rfl⟩
theorem dec_sltc {k : Nat} {ds : List D} (h : HasT Try.prog (k + 4) 60 ds) : ∃ s : Slt, ds = [I s.state, I s.kid.ag, I s.kid.gen, I s.out.trap, I s.out.v.re, I s.out.v.im] := by
  unfold HasT at h; rw [Try.underlying60] at h
  obtain ⟨a, _, rfl, h1, b, _, rfl, h2, c, _, rfl, h3, rfl⟩ := h
  obtain ⟨n, rfl, _⟩ := dec_int h1
  obtain ⟨v, rfl⟩ := dec_rfc (k := k + 1) h2
  obtain ⟨o, rfl⟩ := dec_ouc h3
  exact ⟨⟨n, v, o⟩, rfl⟩
theorem toD_val (v : Vl) : toD Try.prog 33 [I v.re, I v.im] = encV v := by unfold toD; rw [Try.underlying33]
theorem toD_out (o : Ou) : toD Try.prog 36 [I o.trap, I o.v.re, I o.v.im] = encO o := by unfold toD; rw [Try.underlying36]
theorem toD_slt (s : Slt) : toD Try.prog 60 [I s.state, I s.kid.ag, I s.kid.gen, I s.out.trap, I s.out.v.re, I s.out.v.im] = encSlt s := by unfold toD; rw [Try.underlying60]
theorem dec_vals {k : Nat} {ds : List D} (h : HasT Try.prog (k + 3) 28 ds) : ∃ b : Option (List Vl), ds = [encL 2 encV b] ∧ (b.getD []).length < 2 ^ 47 := by
  have hb : Try.prog.bytesOf 33 = 16 := by kernel_rfl
  have hrb := reachBytes_lt
  unfold HasT at h; rw [un28] at h
  rcases h with rfl | ⟨ys, rfl, hl, hsz, hy⟩
  · exact ⟨none, rfl, by simp⟩
  · obtain ⟨rs, hrs, _⟩ := dec_list encV (toD Try.prog 33) (HasT Try.prog (k + 2) 33) (fun _ => True) (fun y hy => by obtain ⟨v, rfl⟩ := dec_vlc hy; exact ⟨v, toD_val v, trivial⟩) ys hy
    have hlen := congrArg List.length hrs
    simp only [List.length_map] at hlen
    refine ⟨some rs, by rw [hrs]; rfl, ?_⟩
    rw [Option.getD_some, ← hlen]; rw [hb] at hsz; omega
theorem dec_slts {k : Nat} {ds : List D} (h : HasT Try.prog (k + 5) 34 ds) : ∃ b : Option (List Slt), ds = [encL 6 encSlt b] ∧ (b.getD []).length < 2 ^ 47 := by
  have hb : Try.prog.bytesOf 60 = 48 := by kernel_rfl
  have hrb := reachBytes_lt
  unfold HasT at h; rw [un34] at h
  rcases h with rfl | ⟨ys, rfl, hl, hsz, hy⟩
  · exact ⟨none, rfl, by simp⟩
  · obtain ⟨rs, hrs, _⟩ := dec_list encSlt (toD Try.prog 60) (HasT Try.prog (k + 4) 60) (fun _ => True) (fun y hy => by obtain ⟨v, rfl⟩ := dec_sltc hy; exact ⟨v, toD_slt v, trivial⟩) ys hy
    have hlen := congrArg List.length hrs
    simp only [List.length_map] at hlen
    refine ⟨some rs, by rw [hrs]; rfl, ?_⟩
    rw [Option.getD_some, ← hlen]; rw [hb] at hsz; omega
theorem dec_frame {k : Nat} {ds : List D} (h : HasT Try.prog (k + 6) 40 ds) : ∃ (f : Fr) (a b : Option (List Vl)) (z : Option (List Slt)), toD Try.prog 40 ds = frC f (encL 2 encV a) (encL 2 encV b) (encL 6 encSlt z) ∧
    a.getD [] = f.stack ∧ b.getD [] = f.locals ∧ z.getD [] = f.slots ∧ f.stack.length < 2 ^ 47 ∧ f.locals.length < 2 ^ 47 ∧ f.slots.length < 2 ^ 47 := by
  unfold HasT at h; rw [Try.underlying40] at h
  obtain ⟨a1, _, rfl, h1, a2, _, rfl, h2, a3, _, rfl, h3, a4, _, rfl, h4, a5, _, rfl, h5, a6, _, rfl, h6, a7, _, rfl, h7, a8, _, rfl, h8, a9, _, rfl, h9, a10, _, rfl, h10, a11, _, rfl, h11, a12, _, rfl, h12, a13, _, rfl, h13, rfl⟩ := h
  obtain ⟨fn, rfl, _⟩ := dec_int h1
  obtain ⟨pc, rfl, _⟩ := dec_int h2
  obtain ⟨a, rfl, la⟩ := dec_vals (k := k + 2) h3
  obtain ⟨b, rfl, lb⟩ := dec_vals (k := k + 2) h4
  obtain ⟨z, rfl, lz⟩ := dec_slts h5
  obtain ⟨sd, rfl, _⟩ := dec_int h6
  obtain ⟨sp, rfl, _⟩ := dec_int h7
  obtain ⟨dr, rfl, _⟩ := dec_int h8
  obtain ⟨st, rfl, _⟩ := dec_int h9
  obtain ⟨wt, rfl, _⟩ := dec_int h10
  obtain ⟨o, rfl⟩ := dec_ouc (k := k + 2) h11
  obtain ⟨r, rfl⟩ := dec_rfc (k := k + 3) h12
  obtain ⟨us, rfl, _⟩ := dec_int h13
  exact ⟨⟨fn, pc, a.getD [], b.getD [], z.getD [], sd, sp, dr, st, wt, o, r, us⟩, a, b, z, by unfold toD; rw [Try.underlying40]; rfl, rfl, rfl, rfl, la, lb, lz⟩
end Go.Proofs.YtghidjgejmmcmaaW.Rg
