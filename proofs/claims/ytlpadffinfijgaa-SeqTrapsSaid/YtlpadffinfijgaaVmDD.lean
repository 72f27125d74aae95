/- What a law is given, as programs and numbers. No conditions. -/
import Derived.Test.YtlpadffinfijgaaVmAA
import Derived.Test.YtlpadffinfijgaaVmLay
import Derived.KernelRfl
import Derived.Test.YtlpadffinfijgaaVmGD
set_option linter.unusedVariables false
set_option linter.unusedSimpArgs false
set_option maxRecDepth 100000
namespace Go.Proofs.YtlpadffinfijgaaW.Rg
open Go.Proofs.YtlpadffinfijgaaW.Vm Go.Proofs.YtlpadffinfijgaaW.Md
open Go Go.Proofs
theorem dec_int {k : Nat} {ds : List D} (h : HasT Try.prog (k + 1) 3 ds) : ∃ n, ds = [I n] ∧ (Lit.int .i64 n).wf = true := by
  unfold HasT at h; rw [un3] at h; exact h
theorem toD_int (n : Int) : toD Try.prog 3 [I n] = I n := by unfold toD; rw [un3]; rfl
theorem dec_list {α : Type} (enc : α → D) (f : List D → D) (T : List D → Prop) (P : α → Prop) (h : ∀ y, T y → ∃ r, f y = enc r ∧ P r) : ∀ ys : List (List D), (∀ y ∈ ys, T y) → ∃ rs : List α, ys.map f = rs.map enc ∧ ∀ r ∈ rs, P r
  | [], _ => ⟨[], rfl, by simp⟩
  | y :: ys, hy => by
    obtain ⟨r, hr, hp⟩ := h y (hy y (by simp))
    obtain ⟨rs, hrs, hps⟩ := dec_list enc f T P h ys fun z hz => hy z (by simp [hz])
    exact ⟨r :: rs, by simp [hr, hrs], fun x hx => by rcases List.mem_cons.1 hx with rfl | hx; exact hp; exact hps x hx⟩
theorem dec_instr {k : Nat} {ds : List D} (h : HasT Try.prog (k + 2) 44 ds) : ∃ x : Instr, toD Try.prog 44 ds = encInstr x ∧ True := by
  unfold HasT at h; rw [Try.underlying44] at h
  obtain ⟨a, _, rfl, h1, b, _, rfl, h2, c, _, rfl, h3, rfl⟩ := h
  obtain ⟨n, rfl, _⟩ := dec_int h1
  obtain ⟨m, rfl, _⟩ := dec_int h2
  obtain ⟨l, rfl, _⟩ := dec_int h3
  exact ⟨⟨n, m, l⟩, by unfold toD; rw [Try.underlying44]; rfl, trivial⟩
theorem dec_code {k : Nat} {ds : List D} (h : HasT Try.prog (k + 3) 39 ds) : ∃ b : Option (List Instr), ds = [encCode b] ∧ (b.getD []).length ≤ maxLen ∧ (b.getD []).length * 24 ≤ 2 ^ 47 := by
  have h24 : Try.prog.bytesOf 44 = 24 := by kernel_rfl
  have hrb := reachBytes_lt
  unfold HasT at h; rw [un39] at h
  rcases h with rfl | ⟨ys, rfl, hl, hsz, hy⟩
  · exact ⟨none, rfl, by simp, by simp⟩
  · obtain ⟨rs, hrs, _⟩ := dec_list encInstr (toD Try.prog 44) (HasT Try.prog (k + 2) 44) (fun _ => True) (fun y hy => dec_instr hy) ys hy
    have hlen := congrArg List.length hrs
    simp only [List.length_map] at hlen
    refine ⟨some rs, ?_, ?_, ?_⟩
    · rw [hrs]; rfl
    · rw [Option.getD_some, ← hlen]; exact hl
    · rw [Option.getD_some, ← hlen]; rw [h24] at hsz; omega
theorem dec_func {k : Nat} {ds : List D} (h : HasT Try.prog (k + 4) 41 ds) : ∃ f : Fu, toD Try.prog 41 ds = encFunc f ∧ (f.c.length < 2 ^ 63 ∧ f.c.length * 24 ≤ 2 ^ 47) := by
  have hml : maxLen = 2 ^ 63 - 1 := rfl
  unfold HasT at h; rw [Try.underlying41] at h
  obtain ⟨a, _, rfl, h1, b, _, rfl, h2, c, _, rfl, h3, d, _, rfl, h4, rfl⟩ := h
  obtain ⟨n, rfl, _⟩ := dec_int h1
  obtain ⟨m, rfl, _⟩ := dec_int h2
  obtain ⟨l, rfl, _⟩ := dec_int h3
  obtain ⟨q, rfl, hq, hq2⟩ := dec_code h4
  exact ⟨⟨n, m, l, q⟩, by unfold toD; rw [Try.underlying41]; rfl, by show (q.getD []).length < _; omega, hq2⟩
theorem dec_prog2 {k : Nat} {ds : List D} (h : HasT Try.prog (k + 5) 23 ds) : ∃ p : Option (List Fu), ds = [encProg p] ∧ Bnd (p.getD []) ∧ ∀ f ∈ p.getD [], f.c.length * 24 ≤ 2 ^ 47 := by
  have hml : maxLen = 2 ^ 63 - 1 := rfl
  unfold HasT at h; rw [un23] at h
  rcases h with rfl | ⟨ys, rfl, hl, hsz, hy⟩
  · exact ⟨none, rfl, ⟨by simp, by simp⟩, by simp⟩
  · obtain ⟨rs, hrs, hp⟩ := dec_list encFunc (toD Try.prog 41) (HasT Try.prog (k + 4) 41) (fun f => f.c.length < 2 ^ 63 ∧ f.c.length * 24 ≤ 2 ^ 47) (fun y hy => dec_func hy) ys hy
    refine ⟨some rs, ?_, ⟨?_, fun f hf => (hp f hf).1⟩, fun f hf => (hp f hf).2⟩
    · rw [hrs]; rfl
    · have := congrArg List.length hrs
      simp at this
      have hl' : rs.length ≤ maxLen := by rw [← this]; exact hl
      show rs.length < _
      omega
theorem dec_prog {k : Nat} {ds : List D} (h : HasT Try.prog (k + 5) 23 ds) : ∃ p : Option (List Fu), ds = [encProg p] ∧ Bnd (p.getD []) := by
  obtain ⟨p, h1, h2, _⟩ := dec_prog2 h
  exact ⟨p, h1, h2⟩
theorem toD_prog (p : Option (List Fu)) : toD Try.prog 23 [encProg p] = encProg p := by unfold toD; rw [un23]; rfl
theorem dec_value {k : Nat} {ds : List D} (h : HasT Try.prog (k + 2) 30 ds) : ∃ re im : Int, toD Try.prog 30 ds = .agg [I re, I im] := by
  unfold HasT at h; rw [Try.underlying30] at h
  obtain ⟨a, _, rfl, h1, b, _, rfl, h2, rfl⟩ := h
  obtain ⟨n, rfl, _⟩ := dec_int h1
  obtain ⟨m, rfl, _⟩ := dec_int h2
  exact ⟨n, m, by unfold toD; rw [Try.underlying30]; rfl⟩
theorem ext_ok : ExtOk Try.prog cfg := ⟨fun f g hg => by cases hg⟩
end Go.Proofs.YtlpadffinfijgaaW.Rg
set_option linter.unusedVariables false
set_option linter.unusedSimpArgs false
set_option maxRecDepth 100000
namespace Go.Proofs.YtlpadffinfijgaaW.Rg
open Go.Proofs.YtlpadffinfijgaaW.Vm Go.Proofs.YtlpadffinfijgaaW.Md
open Go Go.Proofs
theorem dec_vlc {k : Nat} {ds : List D} (h : HasT Try.prog (k + 2) 30 ds) : ∃ v : Vl, ds = [I v.re, I v.im] := by
  unfold HasT at h; rw [Try.underlying30] at h
  obtain ⟨a, _, rfl, h1, b, _, rfl, h2, rfl⟩ := h
  obtain ⟨n, rfl, _⟩ := dec_int h1
  obtain ⟨m, rfl, _⟩ := dec_int h2
  exact ⟨⟨n, m⟩, rfl⟩
theorem dec_rfc {k : Nat} {ds : List D} (h : HasT Try.prog (k + 2) 60 ds) : ∃ v : Rf, ds = [I v.ag, I v.gen] := by
  unfold HasT at h; rw [Try.underlying60] at h
  obtain ⟨a, _, rfl, h1, b, _, rfl, h2, rfl⟩ := h
  obtain ⟨n, rfl, _⟩ := dec_int h1
  obtain ⟨m, rfl, _⟩ := dec_int h2
  exact ⟨⟨n, m⟩, rfl⟩
theorem dec_ouc {k : Nat} {ds : List D} (h : HasT Try.prog (k + 3) 32 ds) : ∃ o : Ou, ds = [I o.trap, I o.v.re, I o.v.im] := by
  unfold HasT at h; rw [Try.underlying32] at h
  obtain ⟨a, _, rfl, h1, b, _, rfl, h2, rfl⟩ := h
  obtain ⟨n, rfl, _⟩ := dec_int h1
  obtain ⟨v, rfl⟩ := dec_vlc h2
  exact ⟨⟨n, v⟩, rfl⟩
theorem dec_sltc {k : Nat} {ds : List D} (h : HasT Try.prog (k + 4) 111 ds) : ∃ s : Slt, ds = [I s.state, I s.kid.ag, I s.kid.gen, I s.out.trap, I s.out.v.re, I s.out.v.im] := by
  unfold HasT at h; rw [Try.underlying111] at h
  obtain ⟨a, _, rfl, h1, b, _, rfl, h2, c, _, rfl, h3, rfl⟩ := h
  obtain ⟨n, rfl, _⟩ := dec_int h1
  obtain ⟨v, rfl⟩ := dec_rfc (k := k + 1) h2
  obtain ⟨o, rfl⟩ := dec_ouc h3
  exact ⟨⟨n, v, o⟩, rfl⟩
theorem toD_val (v : Vl) : toD Try.prog 30 [I v.re, I v.im] = encV v := by unfold toD; rw [Try.underlying30]
theorem toD_out (o : Ou) : toD Try.prog 32 [I o.trap, I o.v.re, I o.v.im] = encO o := by unfold toD; rw [Try.underlying32]
theorem toD_slt (s : Slt) : toD Try.prog 111 [I s.state, I s.kid.ag, I s.kid.gen, I s.out.trap, I s.out.v.re, I s.out.v.im] = encSlt s := by unfold toD; rw [Try.underlying111]
theorem dec_vals {k : Nat} {ds : List D} (h : HasT Try.prog (k + 3) 24 ds) : ∃ b : Option (List Vl), ds = [encL 2 encV b] ∧ (b.getD []).length < 2 ^ 47 := by
  have hb : Try.prog.bytesOf 30 = 16 := by kernel_rfl
  have hrb := reachBytes_lt
  unfold HasT at h; rw [un24] at h
  rcases h with rfl | ⟨ys, rfl, hl, hsz, hy⟩
  · exact ⟨none, rfl, by simp⟩
  · obtain ⟨rs, hrs, _⟩ := dec_list encV (toD Try.prog 30) (HasT Try.prog (k + 2) 30) (fun _ => True) (fun y hy => by obtain ⟨v, rfl⟩ := dec_vlc hy; exact ⟨v, toD_val v, trivial⟩) ys hy
    have hlen := congrArg List.length hrs
    simp only [List.length_map] at hlen
    refine ⟨some rs, by rw [hrs]; rfl, ?_⟩
    rw [Option.getD_some, ← hlen]; rw [hb] at hsz; omega
theorem dec_slts {k : Nat} {ds : List D} (h : HasT Try.prog (k + 5) 58 ds) : ∃ b : Option (List Slt), ds = [encL 6 encSlt b] ∧ (b.getD []).length < 2 ^ 47 := by
  have hb : Try.prog.bytesOf 111 = 48 := by kernel_rfl
  have hrb := reachBytes_lt
  unfold HasT at h; rw [un58] at h
  rcases h with rfl | ⟨ys, rfl, hl, hsz, hy⟩
  · exact ⟨none, rfl, by simp⟩
  · obtain ⟨rs, hrs, _⟩ := dec_list encSlt (toD Try.prog 111) (HasT Try.prog (k + 4) 111) (fun _ => True) (fun y hy => by obtain ⟨v, rfl⟩ := dec_sltc hy; exact ⟨v, toD_slt v, trivial⟩) ys hy
    have hlen := congrArg List.length hrs
    simp only [List.length_map] at hlen
    refine ⟨some rs, by rw [hrs]; rfl, ?_⟩
    rw [Option.getD_some, ← hlen]; rw [hb] at hsz; omega
theorem dec_frame {k : Nat} {ds : List D} (h : HasT Try.prog (k + 6) 62 ds) : ∃ (f : Fr) (a b : Option (List Vl)) (z : Option (List Slt)), toD Try.prog 62 ds = frC f (encL 2 encV a) (encL 2 encV b) (encL 6 encSlt z) ∧
    a.getD [] = f.stack ∧ b.getD [] = f.locals ∧ z.getD [] = f.slots ∧ f.stack.length < 2 ^ 47 ∧ f.locals.length < 2 ^ 47 ∧ f.slots.length < 2 ^ 47 := by
  unfold HasT at h; rw [Try.underlying62] at h
  obtain ⟨a1, _, rfl, h1, a2, _, rfl, h2, a3, _, rfl, h3, a4, _, rfl, h4, a5, _, rfl, h5, a6, _, rfl, h6, a7, _, rfl, h7, a8, _, rfl, h8, a9, _, rfl, h9, a10, _, rfl, h10, a11, _, rfl, h11, a12, _, rfl, h12, a13, _, rfl, h13, rfl⟩ := h
  obtain ⟨fn, rfl, _⟩ := dec_int h1
  obtain ⟨pc, rfl, _⟩ := dec_int h2
  obtain ⟨a, rfl, la⟩ := dec_vals (k := k + 2) h3
  obtain ⟨b, rfl, lb⟩ := dec_vals (k := k + 2) h4
  obtain ⟨z, rfl, lz⟩ := dec_slts h5
  obtain ⟨sd, rfl, _⟩ := dec_int h6
  obtain ⟨sp, rfl, _⟩ := dec_int h7
  obtain ⟨dr, rfl, _⟩ := dec_int h8
  obtain ⟨st, rfl, _⟩ := dec_int h9
  obtain ⟨wt, rfl, _⟩ := dec_int h10
  obtain ⟨o, rfl⟩ := dec_ouc (k := k + 2) h11
  obtain ⟨r, rfl⟩ := dec_rfc (k := k + 3) h12
  obtain ⟨us, rfl, _⟩ := dec_int h13
  exact ⟨⟨fn, pc, a.getD [], b.getD [], z.getD [], sd, sp, dr, st, wt, o, r, us⟩, a, b, z, by unfold toD; rw [Try.underlying62]; rfl, rfl, rfl, rfl, la, lb, lz⟩
end Go.Proofs.YtlpadffinfijgaaW.Rg
