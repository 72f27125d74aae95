/- Programs, worlds, as they are laid. No conditions. -/
import Derived.Test.YtifmjomfoilnnaaGreatVmRG13
import Derived.Test.YtifmjomfoilnnaaGreatVmXD
import Derived.Test.YtifmjomfoilnnaaGreatVmXF
set_option linter.unusedVariables false
set_option linter.unusedSimpArgs false
set_option maxRecDepth 100000
namespace Go.Proofs.YtifmjomfoilnnaaGreatW.Rg
open Go.Proofs.YtifmjomfoilnnaaGreatW.Vm Go.Proofs.YtifmjomfoilnnaaGreatW.Md
open Go.Proofs.YtifmjomfoilnnaaGreatW.Rn (Ring encRing)
open Go Go.Proofs
@[simp] theorem ixL_ring (b : Option (List Ring)) (i : D) : indexAddrD Tryz.prog 33 (encL 4 encRing b) i = (idxD (b.getD []).length i).map fun i => .fptr 4 ((b.getD []).map encRing) i 0 := ixL un33 sz54 b i
structure Wd where
  prog : Option (List Fu)
  fuel : Int
  frames : Int
  room : Int
  cs : Option (List Ce)
  fr : Option (List Int)
  pm : Int
  rings : Option (List Ring)
  cur : Option (List Rf)
  root : Rf
  used : Int
  state : Int
  out : Ou
  err : Int
  steals : Int
  misses : Int
@[reducible] def encW (w : Wd) : D := .agg [encProg w.prog, I w.fuel, I w.frames, I w.room, encL 18 encCe w.cs, encL 1 I w.fr, I w.pm, encL 4 encRing w.rings, encL 2 encRf w.cur, I w.root.ag, I w.root.gen, I w.used, I w.state, I w.out.trap, I w.out.v.re, I w.out.v.im, I w.err, I w.steals, I w.misses]
def Wd.rl (w : Wd) : List Ring := w.rings.getD []
def Wd.cl (w : Wd) : List Rf := w.cur.getD []
/-- a world that a machine can hold -/
structure okW (w : Wd) : Prop where
  pb : Bnd (w.prog.getD [])
  pz : ∀ f ∈ w.prog.getD [], f.c.length * 24 ≤ 2 ^ 47
  c : (w.cs.getD []).length < 2 ^ 47
  f : (w.fr.getD []).length < 2 ^ 47
  x : ∀ c ∈ w.cs.getD [], okX c.x
  r : w.rl.length < 2 ^ 47
  rb : ∀ r ∈ w.rl, r.l.length < 2 ^ 47
  u : w.cl.length < 2 ^ 47
theorem dec_refs {k : Nat} {ds : List D} (h : HasT Tryz.prog (k + 3) 34 ds) : ∃ b : Option (List Rf), ds = [encL 2 encRf b] ∧ (b.getD []).length < 2 ^ 47 := by
  have hb : Tryz.prog.bytesOf 36 = 16 := by kernel_rfl
  have hrb := reachBytes_lt
  unfold HasT at h; rw [un34] at h
  rcases h with rfl | ⟨ys, rfl, hl, hsz, hy⟩
  · exact ⟨none, rfl, by simp⟩
  · obtain ⟨rs, hrs, _⟩ := dec_list encRf (toD Tryz.prog 36) (HasT Tryz.prog (k + 2) 36) (fun _ => True) (fun y hy => by obtain ⟨v, e⟩ := dec_rf hy; exact ⟨v, e, trivial⟩) ys hy
    have hlen := congrArg List.length hrs
    simp only [List.length_map] at hlen
    refine ⟨some rs, by rw [hrs]; rfl, ?_⟩
    rw [Option.getD_some, ← hlen]; rw [hb] at hsz; omega
theorem dec_ring {k : Nat} {ds : List D} (h : HasT Tryz.prog (k + 4) 54 ds) : ∃ r : Ring, toD Tryz.prog 54 ds = encRing r ∧ r.l.length < 2 ^ 47 := by
  unfold HasT at h; rw [Tryz.underlying54] at h
  obtain ⟨a1, _, rfl, h1, a2, _, rfl, h2, a3, _, rfl, h3, a4, _, rfl, h4, rfl⟩ := h
  obtain ⟨b, rfl, l1⟩ := dec_refs h1
  obtain ⟨n, rfl, _⟩ := dec_int h2
  obtain ⟨m, rfl, _⟩ := dec_int h3
  obtain ⟨q, rfl, _⟩ := dec_int h4
  exact ⟨⟨b, n, m, q⟩, by unfold toD; rw [Tryz.underlying54]; rfl, l1⟩
theorem dec_rings {k : Nat} {ds : List D} (h : HasT Tryz.prog (k + 5) 33 ds) : ∃ b : Option (List Ring), ds = [encL 4 encRing b] ∧ (b.getD []).length < 2 ^ 47 ∧ ∀ r ∈ b.getD [], r.l.length < 2 ^ 47 := by
  have hb : Tryz.prog.bytesOf 54 = 48 := by kernel_rfl
  have hrb := reachBytes_lt
  unfold HasT at h; rw [un33] at h
  rcases h with rfl | ⟨ys, rfl, hl, hsz, hy⟩
  · exact ⟨none, rfl, by simp, by simp⟩
  · obtain ⟨rs, hrs, hp⟩ := dec_list encRing (toD Tryz.prog 54) (HasT Tryz.prog (k + 4) 54) (fun r => r.l.length < 2 ^ 47) (fun y hy => dec_ring hy) ys hy
    have hlen := congrArg List.length hrs
    simp only [List.length_map] at hlen
    refine ⟨some rs, by rw [hrs]; rfl, ?_, hp⟩
    rw [Option.getD_some, ← hlen]; rw [hb] at hsz; omega
theorem dec_lims {k : Nat} {ds : List D} (h : HasT Tryz.prog (k + 2) 26 ds) : ∃ a b c : Int, ds = [I a, I b, I c] := by
  unfold HasT at h; rw [Tryz.underlying26] at h
  obtain ⟨a1, _, rfl, h1, a2, _, rfl, h2, a3, _, rfl, h3, rfl⟩ := h
  obtain ⟨n, rfl, _⟩ := dec_int h1
  obtain ⟨m, rfl, _⟩ := dec_int h2
  obtain ⟨q, rfl, _⟩ := dec_int h3
  exact ⟨n, m, q, rfl⟩
theorem dec_err {k : Nat} {ds : List D} (h : HasT Tryz.prog (k + 1) 41 ds) : ∃ n, ds = [I n] := by
  unfold HasT at h; rw [Tryz.underlying41] at h
  obtain ⟨n, rfl, _⟩ := h
  exact ⟨n, rfl⟩
theorem dec_penc {k : Nat} {ds : List D} (h : HasT Tryz.prog (k + 9) 32 ds) : ∃ (cs : Option (List Ce)) (fr : Option (List Int)) (m : Int), ds = [encL 18 encCe cs, encL 1 I fr, I m] ∧ (cs.getD []).length < 2 ^ 47 ∧ (fr.getD []).length < 2 ^ 47 ∧ ∀ c ∈ cs.getD [], okX c.x := by
  obtain ⟨cs, fr, m, e, h1, h2, h3⟩ := dec_pen h
  have he : toD Tryz.prog 32 ds = .agg ds := by unfold toD; rw [Tryz.underlying32]
  rw [he] at e
  exact ⟨cs, fr, m, D.agg.inj e, h1, h2, h3⟩
theorem dec_world {k : Nat} {ds : List D} (h : HasT Tryz.prog (k + 10) 43 ds) : ∃ w : Wd, toD Tryz.prog 43 ds = encW w ∧ okW w := by
  unfold HasT at h; rw [Tryz.underlying43] at h
  obtain ⟨a1, _, rfl, h1, a2, _, rfl, h2, a3, _, rfl, h3, a4, _, rfl, h4, a5, _, rfl, h5, a6, _, rfl, h6, a7, _, rfl, h7, a8, _, rfl, h8, a9, _, rfl, h9, a10, _, rfl, h10, a11, _, rfl, h11, a12, _, rfl, h12, rfl⟩ := h
  obtain ⟨p, rfl, pb, pz⟩ := dec_prog2 (k := k + 4) h1
  obtain ⟨l1, l2, l3, rfl⟩ := dec_lims (k := k + 7) h2
  obtain ⟨cs, fr, m, rfl, c1, c2, c3⟩ := dec_penc (k := k) h3
  obtain ⟨rs, rfl, r1, r2⟩ := dec_rings (k := k + 4) h4
  obtain ⟨cu, rfl, u1⟩ := dec_refs (k := k + 6) h5
  obtain ⟨ro, rfl⟩ := dec_rfc (k := k + 7) h6
  obtain ⟨us, rfl, _⟩ := dec_int (k := k + 8) h7
  obtain ⟨st, rfl, _⟩ := dec_int (k := k + 8) h8
  obtain ⟨ou, rfl⟩ := dec_ouc (k := k + 6) h9
  obtain ⟨er, rfl⟩ := dec_err (k := k + 8) h10
  obtain ⟨sl, rfl, _⟩ := dec_int (k := k + 8) h11
  obtain ⟨mi, rfl, _⟩ := dec_int (k := k + 8) h12
  exact ⟨⟨p, l1, l2, l3, cs, fr, m, rs, cu, ro, us, st, ou, er, sl, mi⟩, by unfold toD; rw [Tryz.underlying43]; rfl, pb, pz, c1, c2, c3, r1, r2, u1⟩
end Go.Proofs.YtifmjomfoilnnaaGreatW.Rg
