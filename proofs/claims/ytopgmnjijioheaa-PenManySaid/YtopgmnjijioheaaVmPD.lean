/- What a law is given, as frames and pens. No conditions. -/
import Derived.Test.YtopgmnjijioheaaVmP2
import Derived.Test.YtopgmnjijioheaaVmLay
import Derived.KernelRfl
set_option linter.unusedVariables false
set_option linter.unusedSimpArgs false
set_option maxRecDepth 100000
namespace Go.Proofs.YtopgmnjijioheaaW.Rg
open Go.Proofs.YtopgmnjijioheaaW.Vm Go.Proofs.YtopgmnjijioheaaW.Md
open Go Go.Proofs
theorem dec_int {k : Nat} {ds : List D} (h : HasT Try.prog (k + 1) 3 ds) : ∃ n, ds = [I n] ∧ (Lit.int .i64 n).wf = true := by
  unfold HasT at h; rw [un3] at h; exact h
theorem toD_int (n : Int) : toD Try.prog 3 [I n] = I n := by unfold toD; rw [un3]; rfl
theorem dec_list {α : Type} (enc : α → D) (f : List D → D) (T : List D → Prop) (P : α → Prop) (h : ∀ y, T y → ∃ r, f y = enc r ∧ P r) : ∀ ys : List (List D), (∀ y ∈ ys, T y) → ∃ rs : List α, ys.map f = rs.map enc ∧ ∀ r ∈ rs, P r
  | [], _ => ⟨[], rfl, by simp⟩
  | y :: ys, hy => by
    obtain ⟨r, hr, hp⟩ := h y (hy y (by simp))
    obtain ⟨rs, hrs, hps⟩ := dec_list enc f T P h ys fun z hz => hy z (by simp [hz])
    exact ⟨r :: rs, by simp [hr, hrs], fun x hx => by rcases List.mem_cons.1 hx with rfl | hx; exact hp; exact hps x hx⟩
theorem dec_vlc {k : Nat} {ds : List D} (h : HasT Try.prog (k + 2) 31 ds) : ∃ v : Vl, ds = [I v.re, I v.im] := by
  unfold HasT at h; rw [Try.underlying31] at h
  obtain ⟨a, _, rfl, h1, b, _, rfl, h2, rfl⟩ := h
  obtain ⟨n, rfl, _⟩ := dec_int h1
  obtain ⟨m, rfl, _⟩ := dec_int h2
  exact ⟨⟨n, m⟩, rfl⟩
theorem dec_rfc {k : Nat} {ds : List D} (h : HasT Try.prog (k + 2) 27 ds) : ∃ v : Rf, ds = [I v.ag, I v.gen] := by
  unfold HasT at h; rw [Try.underlying27] at h
  obtain ⟨a, _, rfl, h1, b, _, rfl, h2, rfl⟩ := h
  obtain ⟨n, rfl, _⟩ := dec_int h1
  obtain ⟨m, rfl, _⟩ := dec_int h2
  exact ⟨⟨n, m⟩, rfl⟩
theorem dec_ouc {k : Nat} {ds : List D} (h : HasT Try.prog (k + 3) 33 ds) : ∃ o : Ou, ds = [I o.trap, I o.v.re, I o.v.im] := by
  unfold HasT at h; rw [Try.underlying33] at h
  obtain ⟨a, _, rfl, h1, b, _, rfl, h2, rfl⟩ := h
  obtain ⟨n, rfl, _⟩ := dec_int h1
  obtain ⟨v, rfl⟩ := dec_vlc h2
  exact ⟨⟨n, v⟩, rfl⟩
theorem dec_sltc {k : Nat} {ds : List D} (h : HasT Try.prog (k + 4) 73 ds) : ∃ s : Slt, ds = [I s.state, I s.kid.ag, I s.kid.gen, I s.out.trap, I s.out.v.re, I s.out.v.im] := by
  unfold HasT at h; rw [Try.underlying73] at h
  obtain ⟨a, _, rfl, h1, b, _, rfl, h2, c, _, rfl, h3, rfl⟩ := h
  obtain ⟨n, rfl, _⟩ := dec_int h1
  obtain ⟨v, rfl⟩ := dec_rfc (k := k + 1) h2
  obtain ⟨o, rfl⟩ := dec_ouc h3
  exact ⟨⟨n, v, o⟩, rfl⟩
theorem toD_val (v : Vl) : toD Try.prog 31 [I v.re, I v.im] = encV v := by unfold toD; rw [Try.underlying31]
theorem toD_out (o : Ou) : toD Try.prog 33 [I o.trap, I o.v.re, I o.v.im] = encO o := by unfold toD; rw [Try.underlying33]
theorem toD_slt (s : Slt) : toD Try.prog 73 [I s.state, I s.kid.ag, I s.kid.gen, I s.out.trap, I s.out.v.re, I s.out.v.im] = encSlt s := by unfold toD; rw [Try.underlying73]
theorem dec_vals {k : Nat} {ds : List D} (h : HasT Try.prog (k + 3) 28 ds) : ∃ b : Option (List Vl), ds = [encL 2 encV b] ∧ (b.getD []).length < 2 ^ 47 := by
  have hb : Try.prog.bytesOf 31 = 16 := by kernel_rfl
  have hrb := reachBytes_lt
  unfold HasT at h; rw [un28] at h
  rcases h with rfl | ⟨ys, rfl, hl, hsz, hy⟩
  · exact ⟨none, rfl, by simp⟩
  · obtain ⟨rs, hrs, _⟩ := dec_list encV (toD Try.prog 31) (HasT Try.prog (k + 2) 31) (fun _ => True) (fun y hy => by obtain ⟨v, rfl⟩ := dec_vlc hy; exact ⟨v, toD_val v, trivial⟩) ys hy
    have hlen := congrArg List.length hrs
    simp only [List.length_map] at hlen
    refine ⟨some rs, by rw [hrs]; rfl, ?_⟩
    rw [Option.getD_some, ← hlen]; rw [hb] at hsz; omega
theorem dec_slts {k : Nat} {ds : List D} (h : HasT Try.prog (k + 5) 29 ds) : ∃ b : Option (List Slt), ds = [encL 6 encSlt b] ∧ (b.getD []).length < 2 ^ 47 := by
  have hb : Try.prog.bytesOf 73 = 48 := by kernel_rfl
  have hrb := reachBytes_lt
  unfold HasT at h; rw [un29] at h
  rcases h with rfl | ⟨ys, rfl, hl, hsz, hy⟩
  · exact ⟨none, rfl, by simp⟩
  · obtain ⟨rs, hrs, _⟩ := dec_list encSlt (toD Try.prog 73) (HasT Try.prog (k + 4) 73) (fun _ => True) (fun y hy => by obtain ⟨v, rfl⟩ := dec_sltc hy; exact ⟨v, toD_slt v, trivial⟩) ys hy
    have hlen := congrArg List.length hrs
    simp only [List.length_map] at hlen
    refine ⟨some rs, by rw [hrs]; rfl, ?_⟩
    rw [Option.getD_some, ← hlen]; rw [hb] at hsz; omega
theorem dec_frame {k : Nat} {ds : List D} (h : HasT Try.prog (k + 6) 35 ds) : ∃ (f : Fr) (a b : Option (List Vl)) (z : Option (List Slt)), toD Try.prog 35 ds = frC f (encL 2 encV a) (encL 2 encV b) (encL 6 encSlt z) ∧
    a.getD [] = f.stack ∧ b.getD [] = f.locals ∧ z.getD [] = f.slots ∧ f.stack.length < 2 ^ 47 ∧ f.locals.length < 2 ^ 47 ∧ f.slots.length < 2 ^ 47 := by
  unfold HasT at h; rw [Try.underlying35] at h
  obtain ⟨a1, _, rfl, h1, a2, _, rfl, h2, a3, _, rfl, h3, a4, _, rfl, h4, a5, _, rfl, h5, a6, _, rfl, h6, a7, _, rfl, h7, a8, _, rfl, h8, a9, _, rfl, h9, a10, _, rfl, h10, a11, _, rfl, h11, a12, _, rfl, h12, a13, _, rfl, h13, rfl⟩ := h
  obtain ⟨fn, rfl, _⟩ := dec_int h1
  obtain ⟨pc, rfl, _⟩ := dec_int h2
  obtain ⟨a, rfl, la⟩ := dec_vals (k := k + 2) h3
  obtain ⟨b, rfl, lb⟩ := dec_vals (k := k + 2) h4
  obtain ⟨z, rfl, lz⟩ := dec_slts h5
  obtain ⟨sd, rfl, _⟩ := dec_int h6
  obtain ⟨sp, rfl, _⟩ := dec_int h7
  obtain ⟨dr, rfl, _⟩ := dec_int h8
  obtain ⟨st, rfl, _⟩ := dec_int h9
  obtain ⟨wt, rfl, _⟩ := dec_int h10
  obtain ⟨o, rfl⟩ := dec_ouc (k := k + 2) h11
  obtain ⟨r, rfl⟩ := dec_rfc (k := k + 3) h12
  obtain ⟨us, rfl, _⟩ := dec_int h13
  exact ⟨⟨fn, pc, a.getD [], b.getD [], z.getD [], sd, sp, dr, st, wt, o, r, us⟩, a, b, z, by unfold toD; rw [Try.underlying35]; rfl, rfl, rfl, rfl, la, lb, lz⟩
/-- a frame that a machine can hold -/
def okX (x : Fx) : Prop := x.f.stack.length < 2 ^ 47 ∧ x.f.locals.length < 2 ^ 47 ∧ x.f.slots.length < 2 ^ 47
theorem dec_fx {k : Nat} {ds : List D} (h : HasT Try.prog (k + 6) 35 ds) : ∃ x : Fx, toD Try.prog 35 ds = encX x ∧ okX x := by
  obtain ⟨f, a, b, z, e, ha, hb, hz, l1, l2, l3⟩ := dec_frame h
  exact ⟨⟨f, a, b, z, ha, hb, hz⟩, e, l1, l2, l3⟩
theorem dec_rf {k : Nat} {ds : List D} (h : HasT Try.prog (k + 2) 27 ds) : ∃ r : Rf, toD Try.prog 27 ds = encRf r := by
  obtain ⟨r, rfl⟩ := dec_rfc h
  exact ⟨r, by unfold toD; rw [Try.underlying27]⟩
theorem dec_bool {k : Nat} {ds : List D} (h : HasT Try.prog (k + 1) 4 ds) : ∃ b, ds = [.bool b] := by
  unfold HasT at h; rw [Try.underlying4] at h; exact h
theorem dec_ints {k : Nat} {ds : List D} (h : HasT Try.prog (k + 2) 23 ds) : ∃ b : Option (List Int), ds = [encL 1 I b] ∧ (b.getD []).length < 2 ^ 47 := by
  have hb : Try.prog.bytesOf 3 = 8 := by kernel_rfl
  have hrb := reachBytes_lt
  unfold HasT at h; rw [un23] at h
  rcases h with rfl | ⟨ys, rfl, hl, hsz, hy⟩
  · exact ⟨none, rfl, by simp⟩
  · obtain ⟨rs, hrs, _⟩ := dec_list I (toD Try.prog 3) (HasT Try.prog (k + 1) 3) (fun _ => True) (fun y hy => by obtain ⟨n, rfl, _⟩ := dec_int hy; exact ⟨n, toD_int n, trivial⟩) ys hy
    have hlen := congrArg List.length hrs
    simp only [List.length_map] at hlen
    refine ⟨some rs, by rw [hrs]; rfl, ?_⟩
    rw [Option.getD_some, ← hlen]; rw [hb] at hsz; omega
theorem dec_cell {k : Nat} {ds : List D} (h : HasT Try.prog (k + 7) 62 ds) : ∃ c : Ce, toD Try.prog 62 ds = encC c ∧ okX c.x := by
  unfold HasT at h; rw [Try.underlying62] at h
  obtain ⟨a1, _, rfl, h1, a2, _, rfl, h2, a3, _, rfl, h3, rfl⟩ := h
  obtain ⟨g, rfl, _⟩ := dec_int h1
  obtain ⟨u, rfl⟩ := dec_bool h2
  obtain ⟨x, e, ok⟩ := dec_fx (k := k) h3
  refine ⟨⟨g, u, x⟩, ?_, ok⟩
  have he : toD Try.prog 35 a3 = .agg a3 := by unfold toD; rw [Try.underlying35]
  rw [he] at e
  have he := D.agg.inj e
  unfold toD; rw [Try.underlying62]
  simp only [List.cons_append, List.nil_append, List.append_nil]
  rw [he]
theorem dec_cells {k : Nat} {ds : List D} (h : HasT Try.prog (k + 8) 22 ds) : ∃ b : Option (List Ce), ds = [encL 18 encC b] ∧ (b.getD []).length < 2 ^ 47 ∧ ∀ c ∈ b.getD [], okX c.x := by
  have hb : Try.prog.bytesOf 62 = 192 := by kernel_rfl
  have hrb := reachBytes_lt
  unfold HasT at h; rw [un22] at h
  rcases h with rfl | ⟨ys, rfl, hl, hsz, hy⟩
  · exact ⟨none, rfl, by simp, by simp⟩
  · obtain ⟨rs, hrs, hp⟩ := dec_list encC (toD Try.prog 62) (HasT Try.prog (k + 7) 62) (fun c => okX c.x) (fun y hy => dec_cell hy) ys hy
    have hlen := congrArg List.length hrs
    simp only [List.length_map] at hlen
    refine ⟨some rs, by rw [hrs]; rfl, ?_, hp⟩
    rw [Option.getD_some, ← hlen]; rw [hb] at hsz; omega
theorem dec_pen {k : Nat} {ds : List D} (h : HasT Try.prog (k + 9) 25 ds) : ∃ (cs : Option (List Ce)) (fr : Option (List Int)) (m : Int), toD Try.prog 25 ds = pnC (encL 18 encC cs) (encL 1 I fr) m ∧ (cs.getD []).length < 2 ^ 47 ∧ (fr.getD []).length < 2 ^ 47 ∧ ∀ c ∈ cs.getD [], okX c.x := by
  unfold HasT at h; rw [Try.underlying25] at h
  obtain ⟨a1, _, rfl, h1, a2, _, rfl, h2, a3, _, rfl, h3, rfl⟩ := h
  obtain ⟨cs, rfl, l1, ok⟩ := dec_cells h1
  obtain ⟨fr, rfl, l2⟩ := dec_ints (k := k + 6) h2
  obtain ⟨m, rfl, _⟩ := dec_int h3
  exact ⟨cs, fr, m, by unfold toD; rw [Try.underlying25]; rfl, l1, l2, ok⟩
end Go.Proofs.YtopgmnjijioheaaW.Rg
