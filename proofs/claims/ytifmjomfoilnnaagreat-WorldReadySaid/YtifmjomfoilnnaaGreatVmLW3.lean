/- WorldSame. No conditions. -/
import Derived.Test.YtifmjomfoilnnaaGreatVmW3
import Derived.Test.YtifmjomfoilnnaaGreatVmFx13
set_option linter.unusedVariables false
set_option linter.unusedSimpArgs false
set_option maxRecDepth 10000
namespace Go.Proofs.YtifmjomfoilnnaaGreatW.Rg
open Go.Proofs.YtifmjomfoilnnaaGreatW.Vm Go.Proofs.YtifmjomfoilnnaaGreatW.Md
open Go.Proofs.YtifmjomfoilnnaaGreatW.Rn (Ring encRing newRing noRing inb)
open Go Go.Proofs
theorem okC_of {c : Ce} (h : okX c.x) : okC c := ⟨by have := h.1; omega, by have := h.2.1; omega, by have := h.2.2; omega⟩
theorem beqs_mapW {α : Type} (e : α → D) (h : ∀ x, beq (e x) (e x) = true) : ∀ l : List α, beqs (l.map e) (l.map e) = true
  | [] => by simp
  | x :: l => by
    rw [List.map_cons, show beqs (e x :: l.map e) (e x :: l.map e) = (beq (e x) (e x) && beqs (l.map e) (l.map e)) by simp only [beqs], h x, beqs_mapW e h l]; rfl
theorem beq_encLW {α : Type} {z : Nat} {e : α → D} (h : ∀ x, beq (e x) (e x) = true) (b : Option (List α)) : beq (encL z e b) (encL z e b) = true := by
  cases b with
  | none => simp [encL]
  | some l => simp [encL, beqs_mapW e h l]
theorem bqW_ins (x : Instr) : beq (encInstr x) (encInstr x) = true := by simp
theorem bqW_fun (f : Fu) : beq (encFunc f) (encFunc f) = true := by simp [beq_encLW bqW_ins]
theorem bqW_prog (p : Option (List Fu)) : beq (encL 4 encFunc p) (encL 4 encFunc p) = true := beq_encLW bqW_fun p
theorem bqW_cells (p : Option (List Ce)) : beq (encL 18 encCe p) (encL 18 encCe p) = true := beq_encLW bq_cell p
theorem bqW_ring (r : Ring) : beq (encRing r) (encRing r) = true := by simp
theorem bqW_rings (p : Option (List Ring)) : beq (encL 4 encRing p) (encL 4 encRing p) = true := beq_encLW bqW_ring p
theorem bqW_ints (p : Option (List Int)) : beq (encL 1 I p) (encL 1 I p) = true := beq_encLW (fun x => by simp) p
theorem wrap_ne (n : Int) : IntKind.i64.wrap (n + 1) ≠ n := by rw [IntKind.wrap_i64]; omega
theorem cl_rings : ∀ l : List Ring, cleans (l.map encRing) = true
  | [] => rfl
  | x :: l => by
    have h : ∀ b : Option (List Rf), clean (encL 2 encRf b) = true := fun b => by simp
    simp [cl_rings l, h]
def zRing : Ring := ⟨none, 0, 0, 0⟩
theorem smallW_len {w : Wd} (h : smallW w = true) : w.rl.length ≤ 70 ∧ w.cl.length ≤ 70 ∧ (w.cs.getD []).length ≤ 30 ∧ (w.fr.getD []).length ≤ 30 ∧ (w.prog.getD []).length ≤ 20 := by
  unfold smallW smallPn small pnW at h
  simp only [Bool.and_eq_true, decide_eq_true_eq] at h
  omega
theorem okV_of {w : Wd} (h : okW w) (hp : (w.prog.getD []).length ≤ 20) : okV w := by
  refine ⟨by omega, fun f hf => ?_, by have := h.c; omega, by have := h.f; omega, fun c hc => okC_of (h.x c hc), by have := h.r; omega, fun r hr => ?_, by have := h.u; omega⟩
  · have := h.pz f hf; unfold okFu; omega
  · have := h.rb r hr; unfold okRi; omega
theorem sameW_self (w : Wd) : sameW w w = true := by unfold sameW samePn; simp
/-- two lists, one behind the other, in memory of one's own -/
theorem twoE {z b : Nat} (H : List Ob) (x y : List D) (hl : (x.length + y.length) * b ≤ 2 ^ 47) :
    ∃ d1 t1 d2 H2, apK b z H (.sl z [] true) [] x = some (d1, H ++ t1) ∧ apK b z (H ++ t1) d1 x y = some (d2, H2) ∧ elsZ (H ++ t1) z d1 = some x ∧ IsS H2 z (x ++ y) d2 ∧ d1.one = true ∧ d1.cells = [d1] ∧
      (∀ i, i < H.length → H2[i]? = H[i]?) ∧ H.length ≤ H2.length ∧ (∀ j, At d2 j → H.length ≤ j) := by
  obtain ⟨d1, t1, a1, i1, g1, l1⟩ := appE (z := z) (b := b) H x (by
    have : x.length * b ≤ (x.length + y.length) * b := Nat.mul_le_mul_right _ (by omega)
    omega)
  obtain ⟨d2, H2, a2, i2, b2, p2, m2⟩ := i1.pushD b y hl
  refine ⟨d1, t1, d2, H2, a1, a2, i1.els, i2, i1.one, i1.cells, fun i hi => ?_, by simp at m2; omega, fun j hj => ?_⟩
  · rw [p2 i (by simp; omega) (fun e => by have := g1 i e; omega), List.getElem?_append_left hi]
  · rcases b2 j hj with h | h
    · exact g1 j h
    · simp at h; omega
theorem same_used (w : Wd) : sameW w { w with used := IntKind.i64.wrap (w.used + 1) } = false := by
  unfold sameW
  have : decide (restK w = restK { w with used := IntKind.i64.wrap (w.used + 1) }) = false := df (fun e => by
    have h := wrap_ne w.used
    simp [restK] at e
    exact h e.symm)
  rw [this]; rfl
theorem same_room (w : Wd) : sameW { w with room := IntKind.i64.wrap (w.room + 1) } w = false := by
  unfold sameW
  have : decide (restK { w with room := IntKind.i64.wrap (w.room + 1) } = restK w) = false := df (fun e => by
    have h := wrap_ne w.room
    simp [restK] at e
    exact h e)
  rw [this]; rfl
theorem same_cur (w : Wd) (oc : Option (List Rf)) (h : oc.getD [] = w.cl ++ [noR]) : sameW w { w with cur := oc } = false := by
  unfold sameW
  have : decide (w.cl = Wd.cl { w with cur := oc }) = false := df (fun e => by
    have e2 : Wd.cl { w with cur := oc } = w.cl ++ [noR] := h
    rw [e2] at e
    have := congrArg List.length e
    simp at this)
  rw [this, Bool.and_false]
theorem same_rings (w : Wd) (od : Option (List Ring)) (h : od.getD [] = w.rl ++ [zRing]) : sameW { w with rings := od } w = false := by
  unfold sameW
  have : decide ((Wd.rl { w with rings := od }).map ringK = w.rl.map ringK) = false := df (fun e => by
    have e2 : Wd.rl { w with rings := od } = w.rl ++ [zRing] := h
    rw [e2] at e
    have := congrArg List.length e
    simp at this)
  rw [this, Bool.and_false, Bool.false_and]
/-- a cell with its frame gone on by one -/
@[reducible] def pcX (x : Fx) : Fx := ⟨{ x.f with pc := IntKind.i64.wrap (x.f.pc + 1) }, x.a, x.b, x.z, x.ha, x.hb, x.hz⟩
@[reducible] def pcC (c : Ce) : Ce := ⟨c.gen, c.used, pcX c.x⟩
theorem same_cells (w : Wd) (n : Nat) (c : Ce) (hc : (w.cs.getD [])[n]? = some c) (oe : Option (List Ce)) (h : oe.getD [] = (w.cs.getD []).set n (pcC c)) : sameW w { w with cs := oe } = false := by
  unfold sameW samePn pnW
  have hl := (List.getElem?_eq_some_iff.1 hc).1
  have : decide ((w.cs.getD []).map cellK = (oe.getD []).map cellK) = false := df (fun e => by
    rw [h] at e
    have e2 := congrArg (fun l => l[n]?) e
    simp only [List.getElem?_map, hc, List.getElem?_set_self hl, Option.map_some, Option.some.injEq] at e2
    have e3 : c.x.f = (pcC c).x.f := congrArg (fun t => t.2.2) e2
    have e4 : c.x.f.pc = IntKind.i64.wrap (c.x.f.pc + 1) := congrArg Fr.pc e3
    exact wrap_ne c.x.f.pc e4.symm)
  simp only [this, Bool.and_false, Bool.false_and]
/-- a world of which some lists are one's own -/
@[reducible] def encWo (w : Wd) (ce ri cu : D) : D := .agg [encProg w.prog, I w.fuel, I w.frames, I w.room, ce, encL 1 I w.fr, I w.pm, ri, cu, I w.root.ag, I w.root.gen, I w.used, I w.state, I w.out.trap, I w.out.v.re, I w.out.v.im, I w.err, I w.steals, I w.misses]
set_option maxHeartbeats 8000000 in
theorem same13_law (w : Wd) (ok : okW w) (n : Int) : fnc Tryz.prog cfg R 6 [encW w, I n] = some (.bool true) := by
  have exv : ∀ (h : List Ob) (b : Option (List Fu)), exp1 h (encL 4 encFunc b) = some (encL 4 encFunc b) := fun h z => exp_clean (by simp) (by simp)
  have exc : ∀ (h : List Ob) (b : Option (List Ce)), exp1 h (encL 18 encCe b) = some (encL 18 encCe b) := fun h z => exp_clean (by simp) (by simp)
  have exi : ∀ (h : List Ob) (b : Option (List Int)), exp1 h (encL 1 I b) = some (encL 1 I b) := fun h z => exp_clean (by simp) (by simp)
  have exr : ∀ (h : List Ob) (b : Option (List Rf)), exp1 h (encL 2 encRf b) = some (encL 2 encRf b) := fun h z => exp_clean (by simp) (by simp)
  have exg : ∀ (h : List Ob) (b : Option (List Ring)), exp1 h (encL 4 encRing b) = some (encL 4 encRing b) := fun h z => exp_clean (by simp) (by simp)
  have hS := smallW_spec w (by have := ok.c; omega)
  rw [fnc_at rfl, body_eq Tryz.func6 rfl rfl]
  cases ks : smallW w <;> rw [ks] at hS
  · simp [argsσ, Vm.results, fixed13, hS, exv, exc, exi, exr, exg]
  obtain ⟨l1, l2, l3, l4, l5⟩ := smallW_len ks
  have V := okV_of ok l5
  -- the worlds that are other ones
  have Sa := sameW_spec w { w with used := IntKind.i64.wrap (w.used + 1) } V
  rw [same_used] at Sa
  have Sb := sameW_spec { w with room := IntKind.i64.wrap (w.room + 1) } w ⟨V.p, V.pc, V.c, V.f, V.x, V.r, V.rb, V.u⟩
  rw [same_room] at Sb
  have Sw := sameW_spec w w V
  rw [sameW_self] at Sw
  have e54 : w.rl = w.rings.getD [] := rfl
  have e55 : w.cl = w.cur.getD [] := rfl
  -- the current ones, and one more
  obtain ⟨d1, t1, C, KC, a1, a2, s1, iC, n1, q1, kC, mC, loC⟩ := twoE (z := 2) (b := 16) [⟨0, 19, [encW w], 0⟩, ⟨0, 19, [encW { w with used := IntKind.i64.wrap (w.used + 1) }], 0⟩, ⟨0, 19, [encW { w with room := IntKind.i64.wrap (w.room + 1) }], 0⟩, ⟨0, 19, [encW w], 0⟩, ⟨0, 19, [encW w], 0⟩] ((w.cur.getD []).map encRf) [encRf noR] (by rw [← e55]; simp; omega)
  simp only [List.cons_append, List.nil_append] at a1 a2 s1
  simp only [List.length_cons, List.length_nil] at kC mC loC
  have c0 := kC 0 (by omega); have c1 := kC 1 (by omega); have c2 := kC 2 (by omega); have c3 := kC 3 (by omega); have c4 := kC 4 (by omega)
  simp only [List.getElem?_cons_succ, List.getElem?_cons_zero] at c0 c1 c2 c3 c4
  have nC := iC.one; have qC := iC.cells
  obtain ⟨K3, hK3⟩ : ∃ K, KC.set 3 ⟨0, 19, [encWo w (encL 18 encCe w.cs) (encL 4 encRing w.rings) C], 0⟩ = K := ⟨_, rfl⟩
  have iC3 : IsS K3 2 ((w.cur.getD []).map encRf ++ [encRf noR]) C := by rw [← hK3]; exact iC.set (fun e => by have := loC 3 e; omega) _
  have h3l : K3.length = KC.length := by rw [← hK3]; simp
  have f0 : K3[0]? = some ⟨0, 19, [encW w], 0⟩ := by rw [← hK3, List.getElem?_set_ne (by omega), c0]
  have f1 : K3[1]? = some ⟨0, 19, [encW { w with used := IntKind.i64.wrap (w.used + 1) }], 0⟩ := by rw [← hK3, List.getElem?_set_ne (by omega), c1]
  have f2 : K3[2]? = some ⟨0, 19, [encW { w with room := IntKind.i64.wrap (w.room + 1) }], 0⟩ := by rw [← hK3, List.getElem?_set_ne (by omega), c2]
  have f3 : K3[3]? = some ⟨0, 19, [encWo w (encL 18 encCe w.cs) (encL 4 encRing w.rings) C], 0⟩ := by rw [← hK3]; exact List.getElem?_set_self (by omega)
  have f4 : K3[4]? = some ⟨0, 19, [encW w], 0⟩ := by rw [← hK3, List.getElem?_set_ne (by omega), c4]
  -- the deques, and one more
  obtain ⟨d3, t3, a3, i3, g3, _⟩ := appE (z := 4) (b := 48) K3 ((w.rings.getD []).map encRing) (by rw [← e54]; simp; omega)
  obtain ⟨KT, hKT⟩ : ∃ K, K3 ++ t3 = K := ⟨_, rfl⟩
  rw [hKT] at a3 i3
  have hTl : K3.length ≤ KT.length := by rw [← hKT]; simp
  have kT : ∀ i, i < K3.length → KT[i]? = K3[i]? := fun i hi => by rw [← hKT, List.getElem?_append_left hi]
  obtain ⟨E, KD, a4, iE, b4, p4, m4⟩ := (i3.app [⟨0, 4, [encRing zRing], 0⟩]).pushD 48 [encRing zRing] (by rw [← e54]; simp; omega)
  have s3 := (i3.app [⟨0, 4, [encRing zRing], 0⟩]).els
  simp only [List.length_append, List.length_cons, List.length_nil] at b4 p4 m4
  have en : elsZ (KT ++ [⟨0, 4, [encRing zRing], 0⟩]) 4 (.own 4 KT.length 0 0 1) = some [encRing zRing] := by simp [elsZ, elsOf]
  have n3 := i3.one; have q3 := i3.cells; have nE := iE.one; have qE := iE.cells
  have loE : ∀ j, At E j → K3.length ≤ j := fun j hj => by
    rcases b4 j hj with h | h
    · exact g3 j h
    · omega
  have kD : ∀ i, i < K3.length → KD[i]? = K3[i]? := fun i hi => by
    rw [p4 i (by omega) (fun e => by have := g3 i e; omega), List.getElem?_append_left (by omega), kT i hi]
  have iCD : IsS KD 2 ((w.cur.getD []).map encRf ++ [encRf noR]) C := iC3.keep fun i hi => kD i (iC3.lt hi)
  obtain ⟨K4, hK4⟩ : ∃ K, KD.set 4 ⟨0, 19, [encWo w (encL 18 encCe w.cs) E (encL 2 encRf w.cur)], 0⟩ = K := ⟨_, rfl⟩
  have h4l : K4.length = KD.length := by rw [← hK4]; simp
  have y4 : KD[4]? = some ⟨0, 19, [encW w], 0⟩ := by rw [kD 4 (by omega), f4]
  have g0 : K4[0]? = some ⟨0, 19, [encW w], 0⟩ := by rw [← hK4, List.getElem?_set_ne (by omega), kD 0 (by omega), f0]
  have g1 : K4[1]? = some ⟨0, 19, [encW { w with used := IntKind.i64.wrap (w.used + 1) }], 0⟩ := by rw [← hK4, List.getElem?_set_ne (by omega), kD 1 (by omega), f1]
  have g2 : K4[2]? = some ⟨0, 19, [encW { w with room := IntKind.i64.wrap (w.room + 1) }], 0⟩ := by rw [← hK4, List.getElem?_set_ne (by omega), kD 2 (by omega), f2]
  have g3' : K4[3]? = some ⟨0, 19, [encWo w (encL 18 encCe w.cs) (encL 4 encRing w.rings) C], 0⟩ := by rw [← hK4, List.getElem?_set_ne (by omega), kD 3 (by omega), f3]
  have g4 : K4[4]? = some ⟨0, 19, [encWo w (encL 18 encCe w.cs) E (encL 2 encRf w.cur)], 0⟩ := by rw [← hK4]; exact List.getElem?_set_self (by omega)
  have iC4 : IsS K4 2 ((w.cl ++ [noR]).map encRf) C := by
    rw [← hK4, List.map_append]; exact iCD.set (fun e => by have := loC 4 e; omega) _
  have iE4 : IsS K4 4 ((w.rl ++ [zRing]).map encRing) E := by
    rw [← hK4, List.map_append]; exact iE.set (fun e => by have := loE 4 e; omega) _
  obtain ⟨xC, yC⟩ := iC4.expO (cl_rfs _)
  obtain ⟨xE, yE⟩ := iE4.expO (cl_rings _)
  have Sc := sameW_spec w { w with cur := oS (w.cl ++ [noR]) C } V
  rw [same_cur w _ yC] at Sc
  have Sd := sameW_spec { w with rings := oS (w.rl ++ [zRing]) E } w ⟨V.p, V.pc, V.c, V.f, V.x, by show ((oS (w.rl ++ [zRing]) E).getD []).length < _; rw [yE]; simp; omega, by
    show ∀ r ∈ (oS (w.rl ++ [zRing]) E).getD [], okRi r
    rw [yE]
    intro r hr
    rcases List.mem_append.1 hr with h | h
    · exact V.rb r h
    · rw [List.mem_singleton.1 h]; show ([] : List Rf).length < _; simp, V.u⟩
  rw [same_rings w _ yE] at Sd
  generalize oS (w.cl ++ [noR]) C = oc at *
  generalize oS (w.rl ++ [zRing]) E = od at *
  have hd := dr6_3
  simp [opsAt, opsIn, Tryz.f6] at hd
  have hdw := Wdraw hd
  clear hd
  have hrn := rnone_spec
  have bw1 := bqW_prog w.prog; have bw2 := bqW_cells w.cs; have bw3 := bqW_ints w.fr; have bw4 := bqW_rings w.rings
  have bw5 : beq (encL 2 encRf w.cur) (encL 2 encRf w.cur) = true := by simp
  have zr : encRing zRing = .agg [.snil, I 0, I 0, I 0] := rfl
  have hcs : (w.cs.getD []).length = (w.cs.getD []).length := rfl
  clear kC kT kD iC iC3 iCD iE i3 p4 b4 loC loE iC4 iE4 f1 f2 f3 f4 c0 c1 c2 yC yE
  rw [zr] at a4 s3 en
  rcases (show decide (n < 0) = true ∨ (decide (n < 0) = false ∧ decide (((w.cs.getD []).length : Int) ≤ n) = true) ∨ (∃ m : Nat, n = m ∧ m < (w.cs.getD []).length) by
    by_cases h1 : n < 0
    · exact .inl (dt h1)
    · by_cases h2 : ((w.cs.getD []).length : Int) ≤ n
      · exact .inr (.inl ⟨df h1, dt h2⟩)
      · exact .inr (.inr ⟨n.toNat, by omega, by omega⟩)) with c | ⟨c, c'⟩ | ⟨m, rfl, hm⟩
  · simp [argsσ, Vm.results, retK_flat, fixed13, hS, hdw, logL, loud, isE, drawChk, bw1, bw2, bw3, bw4, bw5, a1, a2, s1, n1, q1, nC, qC, c3, hK3, a3, s3, bs_ring, List.replicate, a4, en, n3, q3, nE, qE, f0, y4, hK4, g0, g1, g2, g3', g4, xC, xE, Sa, Sb, Sc, Sd, Sw, hrn, c, exv, exc, exi, exr, exg, -List.map_append, -getElem?_pos]
  · simp [argsσ, Vm.results, retK_flat, fixed13, hS, hdw, logL, loud, isE, drawChk, bw1, bw2, bw3, bw4, bw5, a1, a2, s1, n1, q1, nC, qC, c3, hK3, a3, s3, bs_ring, List.replicate, a4, en, n3, q3, nE, qE, f0, y4, hK4, g0, g1, g2, g3', g4, xC, xE, Sa, Sb, Sc, Sd, Sw, hrn, c, c', exv, exc, exi, exr, exg, -List.map_append, -getElem?_pos]
  · have m1 : decide ((m : Int) < 0) = false := df (by omega)
    have m2 : decide ((w.cs.getD []).length ≤ m) = false := df (by omega)
    have hg : (w.cs.getD [])[m]? = some (w.cs.getD [])[m] := List.getElem?_eq_getElem hm
    generalize (w.cs.getD [])[m] = c at *
    obtain ⟨K5, hK5⟩ : ∃ K, K4 ++ [⟨0, 19, [encW w], 0⟩] = K := ⟨_, rfl⟩
    have ql : ∀ o : Ob, (K4 ++ [o])[K4.length]? = some o := fun o => by simp
    have qs := sgx K4
    obtain ⟨CE, t5, a5, i5, g5, _⟩ := appE (z := 18) (b := 192) K5 ((w.cs.getD []).map encCe) (by simp; omega)
    obtain ⟨K6, hK6⟩ : ∃ K, K5 ++ t5 = K := ⟨_, rfl⟩
    rw [hK6] at a5 i5
    have l5' : K5.length = K4.length + 1 := by rw [← hK5]; simp
    have l6 : K5.length ≤ K6.length := by rw [← hK6]; simp
    have k6 : ∀ i, i < K5.length → K6[i]? = K5[i]? := fun i hi => by rw [← hK6, List.getElem?_append_left hi]
    have k5 : K5[0]? = some ⟨0, 19, [encW w], 0⟩ := by rw [← hK5, List.getElem?_append_left (by omega), g0]
    have z0 : K6[0]? = some ⟨0, 19, [encW w], 0⟩ := by rw [k6 0 (by omega), k5]
    have zq : K6[K4.length]? = some ⟨0, 19, [encW w], 0⟩ := by rw [k6 _ (by omega), ← hK5]; simp
    obtain ⟨id, ver, rest, hCE, hh, hel, hix⟩ := i5.ix (t := 29) un29 sz73 (i := m) hm
    have hidl := (List.getElem?_eq_some_iff.1 hh).1
    have hid5 : K5.length ≤ id := g5 id (by rw [hCE]; rfl)
    have hel2 : ((w.cs.getD []).map encCe ++ rest)[m]? = some (encCe c) := by rw [List.getElem?_append_left (by simpa using hm), List.getElem?_map, hg]; rfl
    have hml : m < ((w.cs.getD []).map encCe ++ rest).length := by simp; omega
    have n5 := i5.one; have q5 := i5.cells
    have u0 : ∀ t : List Ob, (K6 ++ t)[id]? = some ⟨ver, 18, (w.cs.getD []).map encCe ++ rest, 0⟩ := fun t => by rw [List.getElem?_append_left hidl, hh]
    have u1 : ∀ o : Ob, (K6 ++ [o])[K6.length]? = some o := fun o => by simp
    have u2 := sgx K6
    have u3 : ∀ o p : Ob, (K6 ++ [p]).set id o = K6.set id o ++ [p] := fun o p => set_lt hidl o
    have v0 : ∀ o p : Ob, (K6.set id o ++ [p])[0]? = some ⟨0, 19, [encW w], 0⟩ := fun o p => by rw [List.getElem?_append_left (by simp; omega), List.getElem?_set_ne (by omega), z0]
    have vq : ∀ o p : Ob, (K6.set id o ++ [p])[K4.length]? = some ⟨0, 19, [encW w], 0⟩ := fun o p => by rw [List.getElem?_append_left (by simp; omega), List.getElem?_set_ne (by omega), zq]
    have w0 : ∀ o p r : Ob, ((K6.set id o ++ [p]).set K4.length r)[0]? = some ⟨0, 19, [encW w], 0⟩ := fun o p r => by rw [List.getElem?_set_ne (by omega), v0]
    have wq : ∀ o p r : Ob, ((K6.set id o ++ [p]).set K4.length r)[K4.length]? = some r := fun o p r => List.getElem?_set_self (by simp; omega)
    have vc : ∀ p : Ob, (K6 ++ [p])[0]? = some ⟨0, 19, [encW w], 0⟩ := fun p => by rw [List.getElem?_append_left (by omega), z0]
    have iF : ∀ p r : Ob, IsS ((K6.set id ⟨ver, 18, ((w.cs.getD []).map encCe ++ rest).set m (encCe (pcC c)), 0⟩ ++ [p]).set K4.length r) 18 (((w.cs.getD []).set m (pcC c)).map encCe) CE := fun p r => by
      refine .inr (.inr ⟨id, ver, rest, by rw [hCE]; simp, ?_⟩)
      rw [List.getElem?_set_ne (by omega), List.getElem?_append_left (by simp; omega), List.getElem?_set_self hidl, set_map_app hm]
    have xF := fun p r => ((iF p r).expO (cl_cells _)).1
    have yF := ((iF ⟨0, 0, [], 0⟩ ⟨0, 0, [], 0⟩).expO (cl_cells _)).2
    have Se := sameW_spec w { w with cs := oS ((w.cs.getD []).set m (pcC c)) CE } V
    rw [same_cells w m c hg _ yF] at Se
    have okc : ∀ d ∈ (w.cs.getD []).set m (pcC c), okC d := fun d hd => by
      rcases List.mem_or_eq_of_mem_set hd with h | rfl
      · exact V.x d h
      · exact V.x c (List.mem_of_getElem? hg)
    have See := sameW_spec { w with cs := oS ((w.cs.getD []).set m (pcC c)) CE } { w with cs := oS ((w.cs.getD []).set m (pcC c)) CE } ⟨V.p, V.pc, by show ((oS ((w.cs.getD []).set m (pcC c)) CE).getD []).length < _; rw [yF, List.length_set]; omega, V.f, by
      show ∀ d ∈ (oS ((w.cs.getD []).set m (pcC c)) CE).getD [], okC d
      rw [yF]; exact okc, V.r, V.rb, V.u⟩
    rw [sameW_self] at See
    generalize oS ((w.cs.getD []).set m (pcC c)) CE = oe at *
    clear iF yF
    generalize (w.cs.getD []).map encCe ++ rest = LC at *
    simp [argsσ, Vm.results, retK_flat, fixed13, hS, hdw, logL, loud, isE, drawChk, bw1, bw2, bw3, bw4, bw5, a1, a2, s1, n1, q1, nC, qC, c3, hK3, a3, s3, bs_ring, List.replicate, a4, en, n3, q3, nE, qE, f0, y4, hK4, g0, g1, g2, g3', g4, xC, xE, Sa, Sb, Sc, Sd, Sw, hrn, m1, m2, ql, qs, hK5, k5, a5, n5, q5, z0, zq, hix, hh, hel2, hml, u0, u1, u2, u3, v0, vq, w0, wq, vc, xF, Se, See, exv, exc, exi, exr, exg, -List.map_append, -getElem?_pos]
end Go.Proofs.YtifmjomfoilnnaaGreatW.Rg
