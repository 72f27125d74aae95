/- The document's step with a frame. No conditions. -/
import Derived.Test.YtlpadffinfijgaaGreatVmT7
set_option linter.unusedVariables false
set_option linter.unusedSimpArgs false
namespace Go.Proofs.YtlpadffinfijgaaGreatW.Rg
open Go.Proofs.YtlpadffinfijgaaGreatW.Vm Go.Proofs.YtlpadffinfijgaaGreatW.Md
open Go Go.Proofs
theorem bt_max (h : List Ob) (ats ty k k' a b) : builtinD Tryz.prog h .max ats ty [.int k a, .int k' b] = some (.int k (if a < b then b else a), h) := rfl
set_option maxHeartbeats 4000000 in
theorem rdo_main (p : Option (List Fu)) (f : Fr) (a b : Option (List Vl)) (z : Option (List Slt)) (ha : a.getD [] = f.stack) (hb : b.getD [] = f.locals) (hz : z.getD [] = f.slots) (h0 : f.state = 0) (nf : Nat) (hfn : f.fn = nf) (f2 : Fu) (hf2 : (p.getD [])[nf]? = some f2)
    (hl1 : f.stack.length ≤ 2 ^ 40) (hl2 : f.locals.length ≤ 2 ^ 40) (hl3 : f.slots.length ≤ 2 ^ 40) (hcl : f2.c.length < 2 ^ 62) (hoB : ∀ x, offP (p.getD []) x ≤ 2 ^ 63 - 1) :
    Qd (doF (p.getD []) f).1 (doF (p.getD []) f).2 (fnc Tryz.prog cfg R 33 [encProg p, frC f (encL 2 encV a) (encL 2 encV b) (encL 6 encSlt z)]) := by
  have hn : nf < (p.getD []).length := (List.getElem?_eq_some_iff.1 hf2).1
  have hix := idxD_nat .i64 hn
  obtain ⟨S, L, Z, t, ec, FV, lo⟩ := copy_spec f a b z (H := [⟨0, 16, [frC f (encL 2 encV a) (encL 2 encV b) (encL 6 encSlt z)], 0⟩, ⟨0, 16, [zF], 0⟩, ⟨0, 5, [zA], 0⟩]) ha hb hz hl1 hl2 hl3
  simp only [List.length_cons, List.length_nil] at lo
  have n1 := FV.s.one; have n2 := FV.l.one; have n3 := FV.z.one
  have c1 := FV.s.cells
  obtain ⟨n, hr⟩ : ∃ n, t.length + 1 + 1 + 1 = n := ⟨_, rfl⟩
  obtain ⟨K0, hK0⟩ : ∃ K0 : List Ob, ⟨0, 16, [frC f (encL 2 encV a) (encL 2 encV b) (encL 6 encSlt z)], 0⟩ :: ⟨0, 16, [zF], 0⟩ :: ⟨0, 5, [zA], 0⟩ :: (t ++ [⟨0, 16, [frC f S L Z], 0⟩]) = K0 := ⟨_, rfl⟩
  have gz : ∀ a b c o : Ob, (a :: b :: c :: (t ++ [o]))[n]? = some o := fun a b c o => by rw [← hr]; simp
  have sz : ∀ a b c o o' : Ob, (a :: b :: c :: (t ++ [o])).set n o' = a :: b :: c :: (t ++ [o']) := fun a b c o o' => by rw [← hr]; simp
  have hlK : K0.length = n + 1 := by rw [← hK0, ← hr]; simp
  have FK : Fv K0 f S L Z := by
    have := FV.app [⟨0, 16, [frC f S L Z], 0⟩]
    rw [← hK0]; simpa using this
  have nl : ∀ i, Fp S L Z .snil i → i < n := fun i hi => by
    have := FV.nlt (vs := []) (V := .snil) (.inl ⟨rfl, rfl⟩) i hi
    simp at this; omega
  have gn : ∀ u, (K0 ++ u)[n]? = some ⟨0, 16, [frC f S L Z], 0⟩ := fun u => by
    rw [get_lt (by omega), ← hK0, ← hr]
    simp
  have g1 : ∀ u, (K0 ++ u)[1]? = some ⟨0, 16, [zF], 0⟩ := fun u => by rw [get_lt (by omega), ← hK0]; rfl
  have g2 : ∀ u, (K0 ++ u)[2]? = some ⟨0, 5, [zA], 0⟩ := fun u => by rw [get_lt (by omega), ← hK0]; rfl
  have gn0 : K0[n]? = some ⟨0, 16, [frC f S L Z], 0⟩ := by have := gn []; rwa [List.append_nil] at this
  have g10 : K0[1]? = some ⟨0, 16, [zF], 0⟩ := by have := g1 []; rwa [List.append_nil] at this
  have g20 : K0[2]? = some ⟨0, 5, [zA], 0⟩ := by have := g2 []; rwa [List.append_nil] at this
  have hnK : n < K0.length := by omega
  have ib : ∀ (x : Ob) u, (K0 ++ x :: u)[n + 1]? = some x := fun x u => by rw [← hlK]; simp
  have ibs : ∀ (o x : Ob) u, (K0.set n o ++ x :: u)[n + 1]? = some x := fun o x u => by
    rw [← hlK, show K0.length = (K0.set n o).length by simp]; simp
  have k0 : decide (f.state = 0) = true := dt h0
  have k1 : decide (f.fn < 0) = false := df (by omega)
  have k2 : decide (((p.getD []).length : Int) ≤ f.fn) = false := df (by omega)
  have hix' : idxD (p.getD []).length (I f.fn) = some nf := by rw [hfn]; exact hix
  have hco : codeOf (p.getD []) f.fn = f2.code.getD [] := by unfold codeOf; rw [hfn, Int.toNat_natCast, hf2]; rfl
  have hcl2 : (f2.code.getD []).length < 2 ^ 62 := hcl
  have hdo : doF (p.getD []) f = match instrAt (p.getD []) f with | none => trapF f 4 | some x => if roomX (p.getD []) f x then runX (p.getD []) f x else trapF f 3 := by
    unfold doF; rw [if_neg (by omega)]
    cases instrAt (p.getD []) f <;> rfl
  have x1 := (FK.s.expO (cl_vals _)).1; have x2 := (FK.l.expO (cl_vals _)).1; have x3 := (FK.z.expO (cl_slts _)).1
  have y1 := (FK.s.expO (cl_vals _)).2; have y2 := (FK.l.expO (cl_vals _)).2; have y3 := (FK.z.expO (cl_slts _)).2
  have exz : ∀ (h : List Ob) (z : Option (List Slt)), exp1 h (encL 6 encSlt z) = some (encL 6 encSlt z) := fun h z => exp_clean (by simp) (by simp)
  have d5 := dr33_5; have d20 := dr33_20; have d24 := dr33_24; have d27 := dr33_27; have d29 := dr33_29; have d33 := dr33_33
  simp [opsAt, opsIn, Tryz.f33] at d5 d20 d24 d27 d29 d33
  have w5 := Wdraw0 d5; have w20 := Wdraw d20; have w24 := Wdraw d24; have w27 := Wdraw d27; have w29 := Wdraw d29; have w33 := Wdraw0 d33
  clear d5 d20 d24 d27 d29 d33
  have P3 : ∀ i, Fp S L Z .snil i → 3 ≤ i := lo
  have PK : ∀ u, ∀ i, Fp S L Z .snil i → i < (K0 ++ u).length := fun u i hi => by have := nl i hi; simp; omega
  rw [hdo]
  by_cases hp : f.pc < 0 ∨ ((f2.code.getD []).length : Int) ≤ f.pc
  · have hI : instrAt (p.getD []) f = none := by
      unfold instrAt
      split
      · rw [hco, List.getElem?_eq_none (by omega)]
      · rfl
    rw [hI]
    obtain ⟨H', S', L', Z', A', e, e1, e2, m1, m2, m3, m4, ex1, ex2, ex3, ex4, iF, iA, l1, l2, e2'⟩ := (rtrap_spec (P := Fp S L Z .snil) FK 4 (fun i h => h) (fun i hi => by have := nl i hi; omega)).close P3 (by omega) g10 g20
    generalize (trapF f 4).1 = g at *; generalize (trapF f 4).2 = c at *
    cases q1 : decide (f.pc < 0)
    · have q2 : decide (((f2.code.getD []).length : Int) ≤ f.pc) = true := dt (by have := of_decide_eq_false q1; omega)
      refine ⟨_, _, ?_, iF, iA⟩
      rw [fnc_at rfl, body_eq Tryz.func33 rfl rfl]
      simp [argsσ, Vm.results, retK_flat, k0, k1, k2, ec, n1, n2, n3, hr, gz, sz, hK0, hix', hf2, gn, gn0, g1, g2, g10, g20, hlK, exz, -getElem?_pos, w5, q1, q2, e, e1, e2, e2', m1, m2, m3, m4, ex1, ex2, ex3, ex4, l1, l2, gs0 l1, gs0 l2]
    · refine ⟨_, _, ?_, iF, iA⟩
      rw [fnc_at rfl, body_eq Tryz.func33 rfl rfl]
      simp [argsσ, Vm.results, retK_flat, k0, k1, k2, ec, n1, n2, n3, hr, gz, sz, hK0, hix', hf2, gn, gn0, g1, g2, g10, g20, hlK, exz, -getElem?_pos, w5, q1, e, e1, e2, e2', m1, m2, m3, m4, ex1, ex2, ex3, ex4, l1, l2, gs0 l1, gs0 l2]
  obtain ⟨m, hm⟩ : ∃ m : Nat, f.pc = m := ⟨f.pc.toNat, by omega⟩
  have hml : m < (f2.code.getD []).length := by omega
  have hy : (f2.code.getD [])[m]? = some (f2.code.getD [])[m] := List.getElem?_eq_getElem hml
  have yi := idxD_nat .i64 hml
  generalize (f2.code.getD [])[m] = y at hy
  have hI : instrAt (p.getD []) f = if thereX (p.getD []) f y = true then some y else none := by
    unfold instrAt
    rw [if_pos (by omega), hco, hm, Int.toNat_natCast, hy]
  rw [hI]
  have q1 : decide (f.pc < 0) = false := df (by omega)
  have q2 : decide (((f2.code.getD []).length : Int) ≤ f.pc) = false := df (by omega)
  have hmx : (if f.pc < 0 then 0 else f.pc) = f.pc := if_neg (by omega)
  have yi' : idxD (f2.code.getD []).length (I f.pc) = some m := by rw [hm]; exact yi
  have hT := rthere_spec p f (oS f.stack S) (oS f.locals L) (oS f.slots Z) y2 y3 y
  cases kT : thereX (p.getD []) f y
  · rw [kT] at hT
    obtain ⟨H', S', L', Z', A', e, e1, e2, m1, m2, m3, m4, ex1, ex2, ex3, ex4, iF, iA, l1, l2, e2'⟩ := (rtrap_spec (P := Fp S L Z .snil) FK 4 (fun i h => h) (fun i hi => by have := nl i hi; omega)).close P3 (by omega) g10 g20
    simp only [Bool.false_eq_true, if_false]; generalize (trapF f 4).1 = g at *; generalize (trapF f 4).2 = c at *
    refine ⟨_, _, ?_, iF, iA⟩
    rw [fnc_at rfl, body_eq Tryz.func33 rfl rfl]
    simp [argsσ, Vm.results, retK_flat, k0, k1, k2, ec, n1, n2, n3, hr, gz, sz, hK0, hix', hf2, gn, gn0, g1, g2, g10, g20, hlK, exz, -getElem?_pos, w5, q1, q2, bt_max, hmx, yi', hy, x1, x2, x3, hT, e, e1, e2, e2', m1, m2, m3, m4, ex1, ex2, ex3, ex4, l1, l2, gs0 l1, gs0 l2]
  rw [kT] at hT
  have hmay : imay y = true := by unfold thereX at kT; simp only [Bool.and_eq_true] at kT; exact kT.1
  have hloc : y.op = 1 ∨ y.op = 2 → y.a < f.locals.length := fun h => by
    unfold thereX at kT; rw [if_pos h] at kT; simp only [Bool.and_eq_true, decide_eq_true_eq] at kT; exact kT.2
  have hslt : y.op = 14 → y.a < f.slots.length := fun h => by
    unfold thereX at kT; rw [if_neg (by omega), if_pos h] at kT; simp only [Bool.and_eq_true, decide_eq_true_eq] at kT; exact kT.2
  have hsp : y.op = 13 → y.a < (p.getD []).length ∧ y.b < f.slots.length := fun h => by
    unfold thereX at kT; rw [if_neg (by omega), if_neg (by omega), if_pos h] at kT; simp only [Bool.and_eq_true, decide_eq_true_eq] at kT; exact kT.2
  have hO := rOff_spec p y (imay_a hmay) (fun h => (hsp h).1)
  have hN := on_spec y.op
  have hon := on6_le y.op
  have ob1 := hoB y
  have hSl : lenS S = some f.stack.length := by rw [FK.s.len]; simp
  have ww : ¬ offP (p.getD []) y < 0 → IntKind.i64.wrap ((f.stack.length : Int) - offP (p.getD []) y) = (f.stack.length : Int) - offP (p.getD []) y := fun h => wr (by omega) (by omega)
  have ww2 : ¬ offP (p.getD []) y < 0 → IntKind.i64.wrap ((f.stack.length : Int) - offP (p.getD []) y + on6 y.op) = (f.stack.length : Int) - offP (p.getD []) y + on6 y.op := fun h => wr (by omega) (by omega)
  simp only [if_true]
  cases kR : roomX (p.getD []) f y
  · have rm : offP (p.getD []) y < 0 ∨ (¬ offP (p.getD []) y < 0 ∧ (f.stack.length : Int) - offP (p.getD []) y < 0) ∨ (¬ offP (p.getD []) y < 0 ∧ ¬ (f.stack.length : Int) - offP (p.getD []) y < 0 ∧ 0 < on6 y.op ∧ 16 < (f.stack.length : Int) - offP (p.getD []) y + on6 y.op) := by
      by_cases u1 : offP (p.getD []) y < 0
      · exact .inl u1
      by_cases u2 : (f.stack.length : Int) - offP (p.getD []) y < 0
      · exact .inr (.inl ⟨u1, u2⟩)
      by_cases u3 : 0 < on6 y.op ∧ 16 < (f.stack.length : Int) - offP (p.getD []) y + on6 y.op
      · exact .inr (.inr ⟨u1, u2, u3⟩)
      · exfalso
        have : roomX (p.getD []) f y = true := by
          unfold roomX
          simp only [Bool.and_eq_true, Bool.or_eq_true, decide_eq_true_eq]
          omega
        rw [kR] at this; cases this
    have F1 := FK.app [⟨0, 3, [encInstr y], 0⟩]
    obtain ⟨H', S', L', Z', A', e, e1, e2, m1, m2, m3, m4, ex1, ex2, ex3, ex4, iF, iA, l1, l2, e2'⟩ := (rtrap_spec (P := Fp S L Z .snil) F1 3 (fun i h => h) (PK _)).close P3 (by simp; omega) (g1 _) (g2 _)
    simp only [Bool.false_eq_true, if_false]; generalize (trapF f 3).1 = g at *; generalize (trapF f 3).2 = c at *
    generalize offP (p.getD []) y = off at *; generalize on6 y.op = on at *
    rcases rm with u1 | ⟨u1, u2⟩ | ⟨u1, u2, u3, u4⟩
    · refine ⟨_, _, ?_, iF, iA⟩
      rw [fnc_at rfl, body_eq Tryz.func33 rfl rfl]
      simp [argsσ, Vm.results, retK_flat, k0, k1, k2, ec, n1, n2, n3, hr, gz, sz, hK0, hix', hf2, gn, gn0, g1, g2, g10, g20, hlK, exz, -getElem?_pos, w5, q1, q2, bt_max, hmx, yi', hy, x1, x2, x3, hT, ib, hO, hN, hSl, dt u1, e, e1, e2, e2', m1, m2, m3, m4, ex1, ex2, ex3, ex4, l1, l2, gs0 l1, gs0 l2]
    · refine ⟨_, _, ?_, iF, iA⟩
      rw [fnc_at rfl, body_eq Tryz.func33 rfl rfl]
      simp [argsσ, Vm.results, retK_flat, k0, k1, k2, ec, n1, n2, n3, hr, gz, sz, hK0, hix', hf2, gn, gn0, g1, g2, g10, g20, hlK, exz, -getElem?_pos, w5, q1, q2, bt_max, hmx, yi', hy, x1, x2, x3, hT, ib, hO, hN, hSl, ww u1, ww2 u1, df u1, dt u2, e, e1, e2, e2', m1, m2, m3, m4, ex1, ex2, ex3, ex4, l1, l2, gs0 l1, gs0 l2]
    · refine ⟨_, _, ?_, iF, iA⟩
      rw [fnc_at rfl, body_eq Tryz.func33 rfl rfl]
      simp [argsσ, Vm.results, retK_flat, k0, k1, k2, ec, n1, n2, n3, hr, gz, sz, hK0, hix', hf2, gn, gn0, g1, g2, g10, g20, hlK, exz, -getElem?_pos, w5, q1, q2, bt_max, hmx, yi', hy, x1, x2, x3, hT, ib, hO, hN, hSl, ww u1, ww2 u1, df u1, df u2, dt u3, dt u4, e, e1, e2, e2', m1, m2, m3, m4, ex1, ex2, ex3, ex4, l1, l2, gs0 l1, gs0 l2]
  have rm : 0 ≤ offP (p.getD []) y ∧ offP (p.getD []) y ≤ f.stack.length ∧ (on6 y.op = 0 ∨ (f.stack.length : Int) - offP (p.getD []) y + on6 y.op ≤ 16) := by
    unfold roomX at kR
    simp only [Bool.and_eq_true, Bool.or_eq_true, decide_eq_true_eq] at kR
    omega
  have u1 : decide (offP (p.getD []) y < 0) = false := df (by omega)
  have u2 : decide ((f.stack.length : Int) - offP (p.getD []) y < 0) = false := df (by omega)
  have u3 : (decide (0 < on6 y.op) = false ∧ True) ∨ (decide (0 < on6 y.op) = true ∧ decide (16 < (f.stack.length : Int) - offP (p.getD []) y + on6 y.op) = false) := by
    by_cases h : 0 < on6 y.op
    · exact .inr ⟨dt h, df (by omega)⟩
    · exact .inl ⟨df h, trivial⟩
  obtain ⟨off, hoff⟩ : ∃ off : Nat, offP (p.getD []) y = off := ⟨(offP (p.getD []) y).toNat, by omega⟩
  have hle : off ≤ f.stack.length := by omega
  have eleft : (f.stack.length : Int) - offP (p.getD []) y = ((f.stack.length - off : Nat) : Int) := by omega
  obtain ⟨dS, sD, eD⟩ := FK.s.dropD (t := 24) un24 sz30 (f.stack.length - off) (by simp)
  have htop : (f.stack.map encV).drop (f.stack.length - off) = (topV f off).map encV := by unfold topV; rw [List.map_drop]
  rw [htop] at eD
  have tl : (topV f off).length ≤ f.stack.length := by unfold topV; simp
  obtain ⟨V, tv, eV, iV, gV, lV⟩ := appE (z := 2) (b := 16) (K0 ++ [⟨0, 3, [encInstr y], 0⟩]) ((topV f off).map encV) (by simp; omega)
  rw [List.append_assoc, List.cons_append, List.nil_append] at eV iV
  simp only [List.length_append, List.length_cons, List.length_nil] at gV lV
  have v1 := iV.one
  replace ww := ww (by omega); replace ww2 := ww2 (by omega)
  rw [eleft] at ww ww2 u2 u3
  have FK2 := FK.app (⟨0, 3, [encInstr y], 0⟩ :: tv)
  have nV : ∀ i, At V i → n + 2 ≤ i := fun i hi => by have := gV i hi; omega
  have P1 : ∀ i, Fp S L Z V i → 3 ≤ i := fun i hi => by
    rcases hi with h1 | h1 | h1 | h1
    · exact lo i (.inl h1)
    · exact lo i (.inr (.inl h1))
    · exact lo i (.inr (.inr (.inl h1)))
    · have := nV i h1; omega
  have P2 : ∀ i, Fp S L Z V i → i < (K0 ++ ⟨0, 3, [encInstr y], 0⟩ :: tv).length := FK2.nlt iV
  have hpc : 0 ≤ f.pc ∧ f.pc < 2 ^ 62 := by omega
  have l3 : 3 ≤ (K0 ++ ⟨0, 3, [encInstr y], 0⟩ :: tv).length := by simp; omega
  have nZV : ∀ i, At Z i → ¬ At V i := fun i h1 h2 => by have := nl i (.inr (.inr (.inl h1))); have := nV i h2; omega
  simp only [if_true]
  by_cases o13 : y.op = 13
  · have d13 : decide (y.op = 13) = true := dt o13
    have hrun : runX (p.getD []) f y = spawnF (p.getD []) f y := by unfold runX; rw [if_neg (by omega), if_neg (by omega), if_pos o13]
    rw [hrun]
    obtain ⟨H', S', L', Z', A', e, e1, e2, m1, m2, m3, m4, ex1, ex2, ex3, ex4, iF, iA, l1, l2, e2'⟩ := (rspawn_spec (P := Fp S L Z V) (p.getD []) FK2 y hmay off hoff hle iV nZV (hsp o13).2 hl1 hpc (fun i h => h) P2).close P1 l3 (g1 _) (g2 _)
    generalize (spawnF (p.getD []) f y).1 = g at *; generalize (spawnF (p.getD []) f y).2 = c at *
    rcases u3 with ⟨u3, u4⟩ | ⟨u3, u4⟩
    · refine ⟨_, _, ?_, iF, iA⟩
      rw [fnc_at rfl, body_eq Tryz.func33 rfl rfl]
      simp [argsσ, Vm.results, retK_flat, k0, k1, k2, ec, n1, n2, n3, hr, gz, sz, hK0, hix', hf2, gn, gn0, g1, g2, g10, g20, hlK, exz, -getElem?_pos, w5, q1, q2, bt_max, hmx, yi', hy, x1, x2, x3, hT, ib, hO, hN, hSl, u1, u2, ww, eleft, sD, eD, eV, v1, u3, u4, ww2, d13, e, e1, e2, e2', m1, m2, m3, m4, ex1, ex2, ex3, ex4, l1, l2, gs0 l1, gs0 l2]
    · refine ⟨_, _, ?_, iF, iA⟩
      rw [fnc_at rfl, body_eq Tryz.func33 rfl rfl]
      simp [argsσ, Vm.results, retK_flat, k0, k1, k2, ec, n1, n2, n3, hr, gz, sz, hK0, hix', hf2, gn, gn0, g1, g2, g10, g20, hlK, exz, -getElem?_pos, w5, q1, q2, bt_max, hmx, yi', hy, x1, x2, x3, hT, ib, hO, hN, hSl, u1, u2, ww, eleft, sD, eD, eV, v1, u3, u4, ww2, d13, e, e1, e2, e2', m1, m2, m3, m4, ex1, ex2, ex3, ex4, l1, l2, gs0 l1, gs0 l2]
  have d13 : decide (y.op = 13) = false := df o13
  have hofE : offP (p.getD []) y = off6 y.op := by unfold offP; rw [if_neg o13]
  by_cases o14 : y.op = 14
  · have d14 : decide (y.op = 14) = true := dt o14
    have hrun : runX (p.getD []) f y = joinF f y := by unfold runX; rw [if_neg (by omega), if_neg (by omega), if_neg o13, if_pos o14]
    rw [hrun]
    obtain ⟨H', S', L', Z', A', e, e1, e2, m1, m2, m3, m4, ex1, ex2, ex3, ex4, iF, iA, l1, l2, e2'⟩ := (rjoin_spec (P := Fp S L Z .snil) FK2 y hmay (hslt o14) hl1 hpc (fun i h => h) (PK _)).close P3 l3 (g1 _) (g2 _)
    generalize (joinF f y).1 = g at *; generalize (joinF f y).2 = c at *
    rcases u3 with ⟨u3, u4⟩ | ⟨u3, u4⟩
    · refine ⟨_, _, ?_, iF, iA⟩
      rw [fnc_at rfl, body_eq Tryz.func33 rfl rfl]
      simp [argsσ, Vm.results, retK_flat, k0, k1, k2, ec, n1, n2, n3, hr, gz, sz, hK0, hix', hf2, gn, gn0, g1, g2, g10, g20, hlK, exz, -getElem?_pos, w5, q1, q2, bt_max, hmx, yi', hy, x1, x2, x3, hT, ib, hO, hN, hSl, u1, u2, ww, eleft, sD, eD, eV, v1, u3, u4, ww2, d13, d14, e, e1, e2, e2', m1, m2, m3, m4, ex1, ex2, ex3, ex4, l1, l2, gs0 l1, gs0 l2]
    · refine ⟨_, _, ?_, iF, iA⟩
      rw [fnc_at rfl, body_eq Tryz.func33 rfl rfl]
      simp [argsσ, Vm.results, retK_flat, k0, k1, k2, ec, n1, n2, n3, hr, gz, sz, hK0, hix', hf2, gn, gn0, g1, g2, g10, g20, hlK, exz, -getElem?_pos, w5, q1, q2, bt_max, hmx, yi', hy, x1, x2, x3, hT, ib, hO, hN, hSl, u1, u2, ww, eleft, sD, eD, eV, v1, u3, u4, ww2, d13, d14, e, e1, e2, e2', m1, m2, m3, m4, ex1, ex2, ex3, ex4, l1, l2, gs0 l1, gs0 l2]
  have d14 : decide (y.op = 14) = false := df o14
  by_cases o16 : y.op = 16
  · have d16 : decide (y.op = 16) = true := dt o16
    have d15 : decide (y.op = 15) = false := df (by omega)
    have hrun : runX (p.getD []) f y = trapF f y.a := by unfold runX; rw [if_pos o16]
    rw [hrun]
    obtain ⟨H', S', L', Z', A', e, e1, e2, m1, m2, m3, m4, ex1, ex2, ex3, ex4, iF, iA, l1, l2, e2'⟩ := (rtrap_spec (P := Fp S L Z .snil) FK2 y.a (fun i h => h) (PK _)).close P3 l3 (g1 _) (g2 _)
    generalize (trapF f y.a).1 = g at *; generalize (trapF f y.a).2 = c at *
    rcases u3 with ⟨u3, u4⟩ | ⟨u3, u4⟩
    · refine ⟨_, _, ?_, iF, iA⟩
      rw [fnc_at rfl, body_eq Tryz.func33 rfl rfl]
      simp [argsσ, Vm.results, retK_flat, k0, k1, k2, ec, n1, n2, n3, hr, gz, sz, hK0, hix', hf2, gn, gn0, g1, g2, g10, g20, hlK, exz, -getElem?_pos, w5, q1, q2, bt_max, hmx, yi', hy, x1, x2, x3, hT, ib, hO, hN, hSl, u1, u2, ww, eleft, sD, eD, eV, v1, u3, u4, ww2, d13, d14, d15, d16, e, e1, e2, e2', m1, m2, m3, m4, ex1, ex2, ex3, ex4, l1, l2, gs0 l1, gs0 l2]
    · refine ⟨_, _, ?_, iF, iA⟩
      rw [fnc_at rfl, body_eq Tryz.func33 rfl rfl]
      simp [argsσ, Vm.results, retK_flat, k0, k1, k2, ec, n1, n2, n3, hr, gz, sz, hK0, hix', hf2, gn, gn0, g1, g2, g10, g20, hlK, exz, -getElem?_pos, w5, q1, q2, bt_max, hmx, yi', hy, x1, x2, x3, hT, ib, hO, hN, hSl, u1, u2, ww, eleft, sD, eD, eV, v1, u3, u4, ww2, d13, d14, d15, d16, e, e1, e2, e2', m1, m2, m3, m4, ex1, ex2, ex3, ex4, l1, l2, gs0 l1, gs0 l2]
  have d16 : decide (y.op = 16) = false := df o16
  have hoff6 : off6 y.op = off := by rw [← hofE]; exact hoff
  obtain ⟨S1, sS, iS1, aS1⟩ := FK.s.takeD (t := 24) un24 sz30 (f.stack.length - off) (by simp)
  have s1 := iS1.one; have s1c := iS1.cells
  have gsn : ∀ o u, (K0.set n o ++ u)[n]? = some o := fun o u => gsA hnK o u
  have gs1 : ∀ o u, (K0.set n o ++ u)[1]? = some ⟨0, 16, [zF], 0⟩ := fun o u => by rw [get_lt (by simp; omega), List.getElem?_set_ne (by omega), g10]
  have gs2 : ∀ o u, (K0.set n o ++ u)[2]? = some ⟨0, 5, [zA], 0⟩ := fun o u => by rw [get_lt (by simp; omega), List.getElem?_set_ne (by omega), g20]
  have st1 : ∀ o u, (K0 ++ u).set n o = K0.set n o ++ u := fun o u => stA hnK o u
  have y0 : idxD 1 (D.int .i64 0) = some 0 := rfl
  have y2' : idxD 2 (D.int .i64 0) = some 0 := rfl
  have y3' : idxD 2 (D.int .i64 1) = some 1 := rfl
  have vone : off = 1 → ∃ id ver rest u, V = .own 2 id ver 0 1 ∧ topV f 1 = [u] ∧ a0 f 1 = u ∧ n + 2 ≤ id ∧ id < (K0 ++ ⟨0, 3, [encInstr y], 0⟩ :: tv).length ∧ ∀ u', (K0 ++ ⟨0, 3, [encInstr y], 0⟩ :: (tv ++ u'))[id]? = some ⟨ver, 2, encV u :: rest, 0⟩ := by
    intro e
    subst e
    have hl2 : (topV f 1).length = 1 := by unfold topV; simp; omega
    obtain ⟨u, huv⟩ : ∃ u, topV f 1 = [u] := by
      match hq : topV f 1, hl2 with
      | [a], _ => exact ⟨a, rfl⟩
    rw [huv] at iV
    obtain ⟨id, ver, rest, rfl, hh, _, _⟩ := iV.ix (t := 24) un24 sz30 (i := 0) (by simp)
    have hid := (List.getElem?_eq_some_iff.1 hh).1
    refine ⟨id, ver, rest, u, rfl, huv, by unfold a0; rw [huv]; rfl, nV id rfl, hid, fun u' => ?_⟩
    rw [← List.cons_append, ← List.append_assoc, get_lt hid, hh]; rfl
  have vtwo : off = 2 → ∃ id ver rest u v, V = .own 2 id ver 0 2 ∧ topV f 2 = [u, v] ∧ a0 f 2 = u ∧ a1 f 2 = v ∧ n + 2 ≤ id ∧ id < (K0 ++ ⟨0, 3, [encInstr y], 0⟩ :: tv).length ∧ ∀ u', (K0 ++ ⟨0, 3, [encInstr y], 0⟩ :: (tv ++ u'))[id]? = some ⟨ver, 2, encV u :: encV v :: rest, 0⟩ := by
    intro e
    subst e
    have hl2 : (topV f 2).length = 2 := by unfold topV; simp; omega
    obtain ⟨u, v, huv⟩ : ∃ u v, topV f 2 = [u, v] := by
      match hq : topV f 2, hl2 with
      | [a, b], _ => exact ⟨a, b, rfl⟩
    rw [huv] at iV
    obtain ⟨id, ver, rest, rfl, hh, _, _⟩ := iV.ix (t := 24) un24 sz30 (i := 0) (by simp)
    have hid := (List.getElem?_eq_some_iff.1 hh).1
    refine ⟨id, ver, rest, u, v, rfl, huv, by unfold a0; rw [huv]; rfl, by unfold a1; rw [huv]; rfl, nV id rfl, hid, fun u' => ?_⟩
    rw [← List.cons_append, ← List.append_assoc, get_lt hid, hh]; rfl
  by_cases o15 : y.op = 15
  · have d15 : decide (y.op = 15) = true := dt o15
    have e1' : off = 1 := by have := hoff6; rw [o15] at this; simp [off6] at this; omega
    subst e1'
    obtain ⟨id, ver, rest, u, rfl, huv, ha0, hidn, hidl, hhV⟩ := vone rfl
    have hrun : runX (p.getD []) f y = endF (popF f 1) ⟨0, u⟩ := by unfold runX; rw [if_neg o16, if_pos o15, ha0]
    rw [hrun]
    have FS : Fv (K0.set n ⟨0, 16, [frC (popF f 1) S1 L Z], 0⟩ ++ ⟨0, 3, [encInstr y], 0⟩ :: tv) (popF f 1) S1 L Z := by
      have m1 : ¬ At S1 n := fun h => by have := nl n (.inl (aS1 n h)); omega
      have m2 : ¬ At L n := fun h => by have := nl n (.inr (.inl h)); omega
      have m3 : ¬ At Z n := fun h => by have := nl n (.inr (.inr (.inl h))); omega
      refine ⟨?_, (FK.l.set m2 _).app _, (FK.z.set m3 _).app _, fun i h => FK.sl i (aS1 i h), fun i h => FK.sz i (aS1 i h), FK.lz⟩
      have := (iS1.set m1 ⟨0, 16, [frC (popF f 1) S1 L Z], 0⟩).app (⟨0, 3, [encInstr y], 0⟩ :: tv)
      rw [← List.map_take] at this
      exact this
    have P4 : ∀ i, Fp S1 L Z .snil i → 3 ≤ i := fun i hi => lo i (by
      rcases hi with h1 | h1 | h1 | h1
      · exact .inl (aS1 i h1)
      · exact .inr (.inl h1)
      · exact .inr (.inr (.inl h1))
      · exact absurd h1 (at_snil i))
    have hVs : ∀ o u', (K0.set n o ++ ⟨0, 3, [encInstr y], 0⟩ :: (tv ++ u'))[id]? = some ⟨ver, 2, encV u :: rest, 0⟩ := fun o u' => by
      rw [← st1, List.getElem?_set_ne (by omega), hhV]
    have hVs0 : ∀ o, (K0.set n o ++ ⟨0, 3, [encInstr y], 0⟩ :: tv)[id]? = some ⟨ver, 2, encV u :: rest, 0⟩ := fun o => by have := hVs o []; rwa [List.append_nil] at this
    obtain ⟨H', S', L', Z', A', e, e1, e2, m1, m2, m3, m4, ex1, ex2, ex3, ex4, iF, iA, l1, l2, e2'⟩ := (rend_spec (P := Fp S1 L Z .snil) FS ⟨0, u⟩ (fun i h => h)).close P4 (by simp; omega) (gs1 _ _) (gs2 _ _)
    generalize (endF (popF f 1) ⟨0, u⟩).1 = g at *; generalize (endF (popF f 1) ⟨0, u⟩).2 = c at *
    have ee : body Tryz.prog R 70 [frC (popF f 1) S1 L Z, .agg [I 0, I u.re, I u.im]] (K0.set n ⟨0, 16, [frC (popF f 1) S1 L Z], 0⟩ ++ ⟨0, 3, [encInstr y], 0⟩ :: tv) = some (.tup [frC g S' L' Z', encAc c A'], H') := e
    simp only [popF] at ee
    rcases u3 with ⟨u3, u4⟩ | ⟨u3, u4⟩
    · refine ⟨_, _, ?_, iF, iA⟩
      rw [fnc_at rfl, body_eq Tryz.func33 rfl rfl]
      simp [argsσ, Vm.results, retK_flat, k0, k1, k2, ec, n1, n2, n3, hr, gz, sz, hK0, hix', hf2, gn, gn0, g1, g2, g10, g20, hlK, exz, -getElem?_pos, w5, q1, q2, bt_max, hmx, yi', hy, x1, x2, x3, hT, ib, hO, hN, hSl, u3, u4, ww2, u1, u2, ww, eleft, sD, eD, eV, v1, d13, d14, d15, d16, sS, s1, s1c, st1, gsn, gs1, gs2, ibs, y0, hVs0, w20, ee, e1, e2, e2', m1, m2, m3, m4, ex1, ex2, ex3, ex4, l1, l2, gs0 l1, gs0 l2, logL, loud, isE, drawChk]
    · refine ⟨_, _, ?_, iF, iA⟩
      rw [fnc_at rfl, body_eq Tryz.func33 rfl rfl]
      simp [argsσ, Vm.results, retK_flat, k0, k1, k2, ec, n1, n2, n3, hr, gz, sz, hK0, hix', hf2, gn, gn0, g1, g2, g10, g20, hlK, exz, -getElem?_pos, w5, q1, q2, bt_max, hmx, yi', hy, x1, x2, x3, hT, ib, hO, hN, hSl, u3, u4, ww2, u1, u2, ww, eleft, sD, eD, eV, v1, d13, d14, d15, d16, sS, s1, s1c, st1, gsn, gs1, gs2, ibs, y0, hVs0, w20, ee, e1, e2, e2', m1, m2, m3, m4, ex1, ex2, ex3, ex4, l1, l2, gs0 l1, gs0 l2, logL, loud, isE, drawChk]
  have d15 : decide (y.op = 15) = false := df o15
  have hvl : ((topV f off).length : Int) = off6 y.op := by rw [hoff6]; unfold topV; simp; omega
  have nS1 : ∀ i, At S1 i → i < n := fun i h => nl i (.inl (aS1 i h))
  have nLn : ∀ i, At L i → i < n := fun i h => nl i (.inr (.inl h))
  have nZn : ∀ i, At Z i → i < n := fun i h => nl i (.inr (.inr (.inl h)))
  have S1l : ∀ i, At S1 i → ¬ At L i := fun i h => FK.sl i (aS1 i h)
  have S1z : ∀ i, At S1 i → ¬ At Z i := fun i h => FK.sz i (aS1 i h)
  have lay2 : (laysX f y (topV f off)).length ≤ 2 := by unfold laysX; (repeat' split) <;> simp
  have hidx : offP (p.getD []) y = off := hoff
  -- memory behind the append
  have mem : ∀ (us : List Ob) (r : D), (∀ h, elsZ h 2 r = some ((laysX f y (topV f off)).map encV)) → ∃ S2 H2, apK 16 2 (K0 ++ ⟨0, 3, [encInstr y], 0⟩ :: us) S1 ((f.stack.map encV).take (f.stack.length - off)) ((laysX f y (topV f off)).map encV) = some (S2, H2) ∧
      elsZ (K0 ++ ⟨0, 3, [encInstr y], 0⟩ :: us) 2 S1 = some ((f.stack.map encV).take (f.stack.length - off)) ∧ S2.one = true ∧ S2.cells = [S2] ∧ n < H2.length ∧ H2[n]? = some ⟨0, 16, [frC f S L Z], 0⟩ ∧ (∀ o : Ob, (H2.set n o)[n + 1]? = some ⟨0, 3, [encInstr y], 0⟩) ∧
      (∀ o : Ob, (H2.set n o)[1]? = some ⟨0, 16, [zF], 0⟩) ∧ (∀ o x : Ob, ((H2.set n o).set 1 x)[2]? = some ⟨0, 5, [zA], 0⟩) ∧ (∀ o x w : Ob, (((H2.set n o).set 1 x).set 2 w)[1]? = some x) ∧ (∀ o x w : Ob, (((H2.set n o).set 1 x).set 2 w)[2]? = some w) ∧
      (∀ o x w : Ob, exp1 (((H2.set n o).set 1 x).set 2 w) S2 = some (encL 2 encV (oS (f.stack.take (f.stack.length - off) ++ laysX f y (topV f off)) S2))) ∧ (oS (f.stack.take (f.stack.length - off) ++ laysX f y (topV f off)) S2).getD [] = f.stack.take (f.stack.length - off) ++ laysX f y (topV f off) ∧
      (∀ o x w : Ob, exp1 (((H2.set n o).set 1 x).set 2 w) L = some (encL 2 encV (oS f.locals L))) ∧ (∀ o x w : Ob, exp1 (((H2.set n o).set 1 x).set 2 w) Z = some (encL 6 encSlt (oS f.slots Z))) ∧
      (∀ i, n + 2 ≤ i → i < (K0 ++ ⟨0, 3, [encInstr y], 0⟩ :: us).length → ∀ o : Ob, (H2.set n o)[i]? = (K0 ++ ⟨0, 3, [encInstr y], 0⟩ :: us)[i]?) ∧ (∀ i, At L i → ∀ o : Ob, (H2.set n o)[i]? = K0[i]?) ∧ H2.length ≥ n + 1 ∧
      IsS H2 2 ((f.stack.take (f.stack.length - off) ++ laysX f y (topV f off)).map encV) S2 ∧ IsS H2 6 (f.slots.map encSlt) Z ∧ (∀ i, At S2 i → (i ≠ n ∧ i ≠ 1 ∧ i ≠ 2) ∧ ¬ At L i) ∧ (∀ i, At L i → i ≠ n ∧ i ≠ 1 ∧ i ≠ 2) ∧ (∀ i, At Z i → i ≠ n ∧ i ≠ 1 ∧ i ≠ 2) ∧ H2[1]? = some ⟨0, 16, [zF], 0⟩ ∧ H2[2]? = some ⟨0, 5, [zA], 0⟩ := by
    intro us r _
    obtain ⟨S2, H2, eA, iA, aA, pA, lA⟩ := (iS1.app (⟨0, 3, [encInstr y], 0⟩ :: us)).pushD 16 ((laysX f y (topV f off)).map encV) (by simp; omega)
    have es1 := (iS1.app (⟨0, 3, [encInstr y], 0⟩ :: us)).els
    have hN : (K0 ++ ⟨0, 3, [encInstr y], 0⟩ :: us).length = n + 1 + (us.length + 1) := by simp [hlK]
    rw [hN] at pA lA aA
    have hn2 : H2[n]? = some ⟨0, 16, [frC f S L Z], 0⟩ := by rw [pA n (by omega) (fun h => by have := nS1 n h; omega), gn]
    have h12 : H2[1]? = some ⟨0, 16, [zF], 0⟩ := by rw [pA 1 (by omega) (fun h => by have := lo 1 (.inl (aS1 1 h)); omega), g1]
    have h22 : H2[2]? = some ⟨0, 5, [zA], 0⟩ := by rw [pA 2 (by omega) (fun h => by have := lo 2 (.inl (aS1 2 h)); omega), g2]
    have n3 : 3 ≤ n := by omega
    have kp : ∀ {zz xs d}, IsS H2 zz xs d → (∀ i, At d i → i ≠ n ∧ i ≠ 1 ∧ i ≠ 2) → ∀ o x w : Ob, IsS (((H2.set n o).set 1 x).set 2 w) zz xs d := fun hd hi o x w =>
      ((hd.set (fun h => (hi n h).1 rfl) o).set (fun h => (hi 1 h).2.1 rfl) x).set (fun h => (hi 2 h).2.2 rfl) w
    have iA' : IsS H2 2 ((f.stack.take (f.stack.length - off) ++ laysX f y (topV f off)).map encV) S2 := by
      rw [List.map_append, List.map_take]; exact iA
    have iL2 : IsS H2 2 (f.locals.map encV) L := FK.l.keep fun i hi => by
      have := nLn i hi
      rw [pA i (by omega) (fun h => S1l i h hi), get_lt (by omega)]
    have iZ2 : IsS H2 6 (f.slots.map encSlt) Z := FK.z.keep fun i hi => by
      have := nZn i hi
      rw [pA i (by omega) (fun h => S1z i h hi), get_lt (by omega)]
    have mS : ∀ i, At S2 i → i ≠ n ∧ i ≠ 1 ∧ i ≠ 2 := fun i hi => by
      rcases aA i hi with h4 | h4
      · have h5 := nS1 i h4; have h6 := lo i (.inl (aS1 i h4)); omega
      · omega
    have mL : ∀ i, At L i → i ≠ n ∧ i ≠ 1 ∧ i ≠ 2 := fun i hi => by have h5 := nLn i hi; have h6 := lo i (.inr (.inl hi)); omega
    have mZ : ∀ i, At Z i → i ≠ n ∧ i ≠ 1 ∧ i ≠ 2 := fun i hi => by have h5 := nZn i hi; have h6 := lo i (.inr (.inr (.inl hi))); omega
    refine ⟨S2, H2, eA, es1, iA.one, iA.cells, by omega, hn2, fun o => ?_, fun o => ?_, fun o x => ?_, fun o x w => ?_, fun o x w => ?_, fun o x w => ((kp iA' mS o x w).expO (cl_vals _)).1, (iA'.expO (cl_vals _)).2, fun o x w => ((kp iL2 mL o x w).expO (cl_vals _)).1, fun o x w => ((kp iZ2 mZ o x w).expO (cl_slts _)).1, fun i h1 h2 o => ?_, fun i hi o => ?_, by omega, iA', iZ2, fun i hi => ⟨mS i hi, fun hL => ?_⟩, mL, mZ, h12, h22⟩
    · rw [List.getElem?_set_ne (by omega), pA (n + 1) (by omega) (fun h => by have := nS1 _ h; omega), ib]
    · rw [List.getElem?_set_ne (by omega), h12]
    · rw [List.getElem?_set_ne (by omega), List.getElem?_set_ne (by omega), h22]
    · rw [List.getElem?_set_ne (by omega), List.getElem?_set_self (by simp; omega)]
    · exact List.getElem?_set_self (by simp; omega)
    · rw [hN] at h2
      rw [List.getElem?_set_ne (by omega), pA i (by omega) (fun h => by have := nS1 _ h; omega)]
    · have := nLn i hi
      rw [List.getElem?_set_ne (by omega), pA i (by omega) (fun h => S1l i h hi), get_lt (by omega)]
    · rcases aA i hi with h4 | h4
      · exact S1l i h4 hL
      · have := nLn i hL; omega
  have qS : beq S S = true := by rcases FK.s with ⟨e, _⟩ | ⟨e, _⟩ | ⟨_, _, _, e, _⟩ <;> rw [e] <;> simp
  have hw : IntKind.i64.wrap (f.pc + 1) = f.pc + 1 := wr (by omega) (by omega)
  by_cases o6 : y.op = 6
  · have d6 : decide (y.op = 6) = true := dt o6
    have d2 : decide (y.op = 2) = false := df (by omega)
    have d12 : decide (y.op = 12) = false := df (by omega)
    have d10 : decide (y.op = 10) = false := df (by omega)
    have d11 : decide (y.op = 11) = false := df (by omega)
    have e2' : off = 2 := by have := hoff6; rw [o6] at this; simp [off6] at this; omega
    subst e2'
    obtain ⟨id, ver, rest, u, v, rfl, huv, ha0, ha1, hidn, hidl, hhV⟩ := vtwo rfl
    have hhV0 : (K0 ++ ⟨0, 3, [encInstr y], 0⟩ :: tv)[id]? = some ⟨ver, 2, encV u :: encV v :: rest, 0⟩ := by have := hhV []; rwa [List.append_nil] at this
    have hD := rDiv_spec u v
    cases hq : divG u v with
    | none =>
      rw [hq] at hD
      have hrun : runX (p.getD []) f y = trapF f 1 := by
        unfold runX; rw [if_neg o16, if_neg o15, if_neg o13, if_neg o14, if_pos (by omega)]
        unfold twoF; rw [if_pos o6, ha0, ha1, hq]
      rw [hrun]
      obtain ⟨H', S', L', Z', A', e, e1, e2, m1, m2, m3, m4, ex1, ex2, ex3, ex4, iF, iA, l1, l2, e2'⟩ := (rtrap_spec (P := Fp S L Z .snil) (FK.app (⟨0, 3, [encInstr y], 0⟩ :: (tv ++ [⟨0, 2, [encV ⟨0, 0⟩], 0⟩]))) 1 (fun i h => h) (PK _)).close P3 (by simp; omega) (g1 _) (g2 _)
      generalize (trapF f 1).1 = g at *; generalize (trapF f 1).2 = c at *
      rcases u3 with ⟨u3, u4⟩ | ⟨u3, u4⟩
      · refine ⟨_, _, ?_, iF, iA⟩
        rw [fnc_at rfl, body_eq Tryz.func33 rfl rfl]
        simp [argsσ, Vm.results, retK_flat, k0, k1, k2, ec, n1, n2, n3, hr, gz, sz, hK0, hix', hf2, gn, gn0, g1, g2, g10, g20, hlK, exz, -getElem?_pos, w5, q1, q2, bt_max, hmx, yi', hy, x1, x2, x3, hT, ib, hO, hN, hSl, u3, u4, ww2, u1, u2, ww, eleft, sD, eD, eV, v1, d13, d14, d15, d16, d6, y2', y3', hhV0, w24, hD, logL, loud, isE, drawChk, e, e1, e2, e2', m1, m2, m3, m4, ex1, ex2, ex3, ex4, l1, l2, gs0 l1, gs0 l2]
      · refine ⟨_, _, ?_, iF, iA⟩
        rw [fnc_at rfl, body_eq Tryz.func33 rfl rfl]
        simp [argsσ, Vm.results, retK_flat, k0, k1, k2, ec, n1, n2, n3, hr, gz, sz, hK0, hix', hf2, gn, gn0, g1, g2, g10, g20, hlK, exz, -getElem?_pos, w5, q1, q2, bt_max, hmx, yi', hy, x1, x2, x3, hT, ib, hO, hN, hSl, u3, u4, ww2, u1, u2, ww, eleft, sD, eD, eV, v1, d13, d14, d15, d16, d6, y2', y3', hhV0, w24, hD, logL, loud, isE, drawChk, e, e1, e2, e2', m1, m2, m3, m4, ex1, ex2, ex3, ex4, l1, l2, gs0 l1, gs0 l2]
    | some q =>
      rw [hq] at hD
      have iV2 := iV.app [⟨0, 2, [encV q], 0⟩]
      rw [List.append_assoc, List.cons_append] at iV2
      obtain ⟨r, tl, eL, erL⟩ := lays_spec (FK.app (⟨0, 3, [encInstr y], 0⟩ :: (tv ++ [⟨0, 2, [encV q], 0⟩]))) iV2 y hmay (fun h => hloc (.inl h)) hvl
      rw [List.append_assoc, List.cons_append, List.append_assoc, List.cons_append, List.nil_append] at eL
      obtain ⟨S2, H2, eA, es1, s2, s2c, lH, hn2, hi2, h12, h22, z1, z2, xS, yS, xL, xZ, gV2, gL2, lH2, jS, jZ, kS, kL, kZ, h120, h220⟩ := mem (tv ++ ⟨0, 2, [encV q], 0⟩ :: tl) r erL
      have hn2' : ∀ o : Ob, (H2.set n o)[n]? = some o := fun o => gs0 lH o
      have hrl := run_lays (p.getD []) f y hmay o13 o14 o15 o16 (fun h => by rw [ha0, ha1, hq]; simp)
      rw [show (off6 y.op).toNat = 2 by omega] at hrl
      rw [hrl, if_neg (by omega), if_neg (by omega), if_neg (by omega)]
      rcases u3 with ⟨u3, u4⟩ | ⟨u3, u4⟩
      · refine ⟨frC ⟨f.fn, f.pc + 1, f.stack.take (f.stack.length - 2) ++ laysX f y (topV f 2), f.locals, f.slots, f.seed, f.spawned, f.draws, f.state, f.wait, f.out, f.up, f.upSlot⟩ (encL 2 encV (oS (f.stack.take (f.stack.length - 2) ++ laysX f y (topV f 2)) S2)) (encL 2 encV (oS f.locals L)) (encL 6 encSlt (oS f.slots Z)), .agg [I 1, I 0, I 0, I 0, .snil], ?_, ⟨_, _, _, rfl, yS, y2, y3⟩, ⟨none, rfl, rfl⟩⟩
        rw [fnc_at rfl, body_eq Tryz.func33 rfl rfl]
        simp [argsσ, Vm.results, retK_flat, k0, k1, k2, ec, n1, n2, n3, hr, gz, sz, hK0, hix', hf2, gn, gn0, g1, g2, g10, g20, hlK, exz, -getElem?_pos, w5, q1, q2, bt_max, hmx, yi', hy, x1, x2, x3, hT, ib, hO, hN, hSl, u3, u4, ww2, u1, u2, ww, eleft, sD, eD, eV, v1, d13, d14, d15, d16, d6, sS, s1, s1c, st1, hw, eL, erL, es1, eA, s2, s2c, lH, hn2, hn2', hi2, h12, h22, z1, z2, xS, xL, xZ, qS, w27, logL, loud, isE, drawChk, d2, d12, d10, d11, w33, y2', y3', hhV0, w24, hD]
      · refine ⟨frC ⟨f.fn, f.pc + 1, f.stack.take (f.stack.length - 2) ++ laysX f y (topV f 2), f.locals, f.slots, f.seed, f.spawned, f.draws, f.state, f.wait, f.out, f.up, f.upSlot⟩ (encL 2 encV (oS (f.stack.take (f.stack.length - 2) ++ laysX f y (topV f 2)) S2)) (encL 2 encV (oS f.locals L)) (encL 6 encSlt (oS f.slots Z)), .agg [I 1, I 0, I 0, I 0, .snil], ?_, ⟨_, _, _, rfl, yS, y2, y3⟩, ⟨none, rfl, rfl⟩⟩
        rw [fnc_at rfl, body_eq Tryz.func33 rfl rfl]
        simp [argsσ, Vm.results, retK_flat, k0, k1, k2, ec, n1, n2, n3, hr, gz, sz, hK0, hix', hf2, gn, gn0, g1, g2, g10, g20, hlK, exz, -getElem?_pos, w5, q1, q2, bt_max, hmx, yi', hy, x1, x2, x3, hT, ib, hO, hN, hSl, u3, u4, ww2, u1, u2, ww, eleft, sD, eD, eV, v1, d13, d14, d15, d16, d6, sS, s1, s1c, st1, hw, eL, erL, es1, eA, s2, s2c, lH, hn2, hn2', hi2, h12, h22, z1, z2, xS, xL, xZ, qS, w27, logL, loud, isE, drawChk, d2, d12, d10, d11, w33, y2', y3', hhV0, w24, hD]
  have d6 : decide (y.op = 6) = false := df o6
  obtain ⟨r, tl, eL, erL⟩ := lays_spec FK2 iV y hmay (fun h => hloc (.inl h)) hvl
  rw [List.append_assoc, List.cons_append] at eL
  obtain ⟨S2, H2, eA, es1, s2, s2c, lH, hn2, hi2, h12, h22, z1, z2, xS, yS, xL, xZ, gV2, gL2, lH2, jS, jZ, kS, kL, kZ, h120, h220⟩ := mem (tv ++ tl) r erL
  have hn2' : ∀ o : Ob, (H2.set n o)[n]? = some o := fun o => gs0 lH o
  have hrl := run_lays (p.getD []) f y hmay o13 o14 o15 o16 (fun h => absurd h o6)
  rw [show (off6 y.op).toNat = off by omega] at hrl
  by_cases o2 : y.op = 2
  · have d2 : decide (y.op = 2) = true := dt o2
    have d12 : decide (y.op = 12) = false := df (by omega)
    have d10 : decide (y.op = 10) = false := df (by omega)
    have d11 : decide (y.op = 11) = false := df (by omega)
    obtain ⟨id, ver, rest, u, rfl, huv, ha0, hidn, hidl, hhV⟩ := vone (by have := hoff6; rw [o2] at this; simp [off6] at this; omega)
    have hV2 : ∀ o : Ob, (H2.set n o)[id]? = some ⟨ver, 2, encV u :: rest, 0⟩ := fun o => by rw [gV2 id (by omega) (by simp at hidl ⊢; omega), hhV]
    have hl1' := hloc (.inr o2)
    obtain ⟨na, hna⟩ : ∃ na : Nat, y.a = na := ⟨y.a.toNat, by have := imay_a hmay; omega⟩
    have hnal : na < f.locals.length := by omega
    obtain ⟨idl, verl, restl, rfl, hhL, hel, _⟩ := FK.l.ix (t := 24) un24 sz30 hnal
    have yn := idxD_nat .i64 hnal
    have yn' : idxD f.locals.length (I y.a) = some na := by rw [hna]; exact yn
    have hL2 : ∀ o : Ob, (H2.set n o)[idl]? = some ⟨verl, 2, f.locals.map encV ++ restl, 0⟩ := fun o => by rw [gL2 idl rfl, hhL]
    obtain ⟨kl1, kl2, kl3⟩ := kL idl rfl
    have hidlt : idl < H2.length := by have := (List.getElem?_eq_some_iff.1 (hL2 ⟨0, 0, [], 0⟩)).1; simpa using this
    have hset : (f.locals.map encV ++ restl).set na (.agg [I u.re, I u.im]) = (f.locals.set na u).map encV ++ restl := by
      rw [List.set_append_left _ _ (by simpa using hnal), List.map_set]
    have eyn : y.a.toNat = na := by omega
    obtain ⟨OL, hOL⟩ : ∃ OL : Ob, OL = ⟨verl, 2, (f.locals.set na u).map encV ++ restl, 0⟩ := ⟨_, rfl⟩
    have tN : ∀ o : Ob, ((H2.set n o).set idl OL)[n]? = some o := fun o => by rw [List.getElem?_set_ne (by omega), hn2']
    have tI : ∀ o : Ob, ((H2.set n o).set idl OL)[n + 1]? = some ⟨0, 3, [encInstr y], 0⟩ := fun o => by rw [List.getElem?_set_ne (by have := nLn idl rfl; omega), hi2]
    have t1 : ∀ o : Ob, ((H2.set n o).set idl OL)[1]? = some ⟨0, 16, [zF], 0⟩ := fun o => by rw [List.getElem?_set_ne (by omega), h12]
    have t2 : ∀ o x : Ob, (((H2.set n o).set idl OL).set 1 x)[2]? = some ⟨0, 5, [zA], 0⟩ := fun o x => by rw [List.getElem?_set_ne (by omega), List.getElem?_set_ne (by omega), List.getElem?_set_ne (by omega), h220]
    have tS : ∀ o o' : Ob, ((H2.set n o).set idl OL).set n o' = (H2.set n o').set idl OL := fun o o' => by rw [List.set_comm _ _ (by omega), List.set_set]
    have l2' : 2 < H2.length := (List.getElem?_eq_some_iff.1 h220).1
    have tz1 : ∀ o x w : Ob, ((((H2.set n o).set idl OL).set 1 x).set 2 w)[1]? = some x := fun o x w => by rw [List.getElem?_set_ne (by omega), List.getElem?_set_self (by simp; omega)]
    have tz2 : ∀ o x w : Ob, ((((H2.set n o).set idl OL).set 1 x).set 2 w)[2]? = some w := fun o x w => List.getElem?_set_self (by simp; omega)
    have kp : ∀ {zz xs d}, IsS H2 zz xs d → (∀ i, At d i → (i ≠ n ∧ i ≠ 1 ∧ i ≠ 2) ∧ i ≠ idl) → ∀ o x w : Ob, IsS ((((H2.set n o).set idl OL).set 1 x).set 2 w) zz xs d := fun hd hi o x w =>
      (((hd.set (fun h => (hi n h).1.1 rfl) o).set (fun h => (hi idl h).2 rfl) OL).set (fun h => (hi 1 h).1.2.1 rfl) x).set (fun h => (hi 2 h).1.2.2 rfl) w
    have eS := fun o x w => ((kp jS (fun i hi => ⟨(kS i hi).1, fun h => (kS i hi).2 (by rw [h]; rfl)⟩) o x w).expO (cl_vals _)).1
    have eZ := fun o x w => ((kp jZ (fun i hi => ⟨kZ i hi, fun h => FK.lz idl rfl (by rw [← h]; exact hi)⟩) o x w).expO (cl_slts _)).1
    have iLn : ∀ o x w : Ob, IsS ((((H2.set n o).set idl OL).set 1 x).set 2 w) 2 ((f.locals.set na u).map encV) (.own 2 idl verl 0 f.locals.length) := fun o x w =>
      .inr (.inr ⟨idl, verl, restl, by simp, by rw [List.getElem?_set_ne (by omega), List.getElem?_set_ne (by omega), List.getElem?_set_self (by simpa using hidlt), hOL]⟩)
    have eLx := fun o x w => ((iLn o x w).expO (cl_vals _)).1
    have yL := ((iLn ⟨0, 0, [], 0⟩ ⟨0, 0, [], 0⟩ ⟨0, 0, [], 0⟩).expO (cl_vals _)).2
    rw [hrl, ha0, if_neg (by omega), if_pos o2, if_neg (by omega), eyn]
    have hOL' : (⟨verl, 2, (f.locals.map encV ++ restl).set na (.agg [I u.re, I u.im]), 0⟩ : Ob) = OL := by rw [hOL, hset]
    clear hOL
    rcases u3 with ⟨u3, u4⟩ | ⟨u3, u4⟩
    · refine ⟨frC ⟨f.fn, f.pc + 1, f.stack.take (f.stack.length - off) ++ laysX f y (topV f off), f.locals.set na u, f.slots, f.seed, f.spawned, f.draws, f.state, f.wait, f.out, f.up, f.upSlot⟩ (encL 2 encV (oS (f.stack.take (f.stack.length - off) ++ laysX f y (topV f off)) S2)) (encL 2 encV (oS (f.locals.set na u) (.own 2 idl verl 0 f.locals.length))) (encL 6 encSlt (oS f.slots Z)), .agg [I 1, I 0, I 0, I 0, .snil], ?_, ⟨_, _, _, rfl, yS, yL, y3⟩, ⟨none, rfl, rfl⟩⟩
      rw [fnc_at rfl, body_eq Tryz.func33 rfl rfl]
      simp [argsσ, Vm.results, retK_flat, k0, k1, k2, ec, n1, n2, n3, hr, gz, sz, hK0, hix', hf2, gn, gn0, g1, g2, g10, g20, hlK, exz, -getElem?_pos, w5, q1, q2, bt_max, hmx, yi', hy, x1, x2, x3, hT, ib, hO, hN, hSl, u3, u4, ww2, u1, u2, ww, eleft, sD, eD, eV, v1, d13, d14, d15, d16, d6, sS, s1, s1c, st1, hw, eL, erL, es1, eA, s2, s2c, lH, hn2, hn2', hi2, h12, h22,  qS, w27, logL, loud, isE, drawChk, d2, d12, d10, d11, w33, w29, y0, hV2, yn', hL2, hel, hOL', tN, tI, t1, t2, tS, tz1, tz2, eS, eZ, eLx, -List.map_set, -List.map_append]
    · refine ⟨frC ⟨f.fn, f.pc + 1, f.stack.take (f.stack.length - off) ++ laysX f y (topV f off), f.locals.set na u, f.slots, f.seed, f.spawned, f.draws, f.state, f.wait, f.out, f.up, f.upSlot⟩ (encL 2 encV (oS (f.stack.take (f.stack.length - off) ++ laysX f y (topV f off)) S2)) (encL 2 encV (oS (f.locals.set na u) (.own 2 idl verl 0 f.locals.length))) (encL 6 encSlt (oS f.slots Z)), .agg [I 1, I 0, I 0, I 0, .snil], ?_, ⟨_, _, _, rfl, yS, yL, y3⟩, ⟨none, rfl, rfl⟩⟩
      rw [fnc_at rfl, body_eq Tryz.func33 rfl rfl]
      simp [argsσ, Vm.results, retK_flat, k0, k1, k2, ec, n1, n2, n3, hr, gz, sz, hK0, hix', hf2, gn, gn0, g1, g2, g10, g20, hlK, exz, -getElem?_pos, w5, q1, q2, bt_max, hmx, yi', hy, x1, x2, x3, hT, ib, hO, hN, hSl, u3, u4, ww2, u1, u2, ww, eleft, sD, eD, eV, v1, d13, d14, d15, d16, d6, sS, s1, s1c, st1, hw, eL, erL, es1, eA, s2, s2c, lH, hn2, hn2', hi2, h12, h22,  qS, w27, logL, loud, isE, drawChk, d2, d12, d10, d11, w33, w29, y0, hV2, yn', hL2, hel, hOL', tN, tI, t1, t2, tS, tz1, tz2, eS, eZ, eLx, -List.map_set, -List.map_append]
  have d2 : decide (y.op = 2) = false := df o2
  by_cases o12 : y.op = 12
  · have d12 : decide (y.op = 12) = true := dt o12
    have d10 : decide (y.op = 10) = false := df (by omega)
    have d11 : decide (y.op = 11) = false := df (by omega)
    rw [hrl, if_neg (by omega), if_neg o2, if_pos o12]
    rcases u3 with ⟨u3, u4⟩ | ⟨u3, u4⟩
    · refine ⟨frC ⟨f.fn, f.pc + 1, f.stack.take (f.stack.length - off) ++ laysX f y (topV f off), f.locals, f.slots, f.seed, f.spawned, IntKind.i64.wrap (f.draws + 1), f.state, f.wait, f.out, f.up, f.upSlot⟩ (encL 2 encV (oS (f.stack.take (f.stack.length - off) ++ laysX f y (topV f off)) S2)) (encL 2 encV (oS f.locals L)) (encL 6 encSlt (oS f.slots Z)), .agg [I 1, I 0, I 0, I 0, .snil], ?_, ⟨_, _, _, rfl, yS, y2, y3⟩, ⟨none, rfl, rfl⟩⟩
      rw [fnc_at rfl, body_eq Tryz.func33 rfl rfl]
      simp [argsσ, Vm.results, retK_flat, k0, k1, k2, ec, n1, n2, n3, hr, gz, sz, hK0, hix', hf2, gn, gn0, g1, g2, g10, g20, hlK, exz, -getElem?_pos, w5, q1, q2, bt_max, hmx, yi', hy, x1, x2, x3, hT, ib, hO, hN, hSl, u3, u4, ww2, u1, u2, ww, eleft, sD, eD, eV, v1, d13, d14, d15, d16, d6, sS, s1, s1c, st1, hw, eL, erL, es1, eA, s2, s2c, lH, hn2, hn2', hi2, h12, h22, z1, z2, xS, xL, xZ, qS, w27, logL, loud, isE, drawChk, d2, d12, d10, d11, w33]
    · refine ⟨frC ⟨f.fn, f.pc + 1, f.stack.take (f.stack.length - off) ++ laysX f y (topV f off), f.locals, f.slots, f.seed, f.spawned, IntKind.i64.wrap (f.draws + 1), f.state, f.wait, f.out, f.up, f.upSlot⟩ (encL 2 encV (oS (f.stack.take (f.stack.length - off) ++ laysX f y (topV f off)) S2)) (encL 2 encV (oS f.locals L)) (encL 6 encSlt (oS f.slots Z)), .agg [I 1, I 0, I 0, I 0, .snil], ?_, ⟨_, _, _, rfl, yS, y2, y3⟩, ⟨none, rfl, rfl⟩⟩
      rw [fnc_at rfl, body_eq Tryz.func33 rfl rfl]
      simp [argsσ, Vm.results, retK_flat, k0, k1, k2, ec, n1, n2, n3, hr, gz, sz, hK0, hix', hf2, gn, gn0, g1, g2, g10, g20, hlK, exz, -getElem?_pos, w5, q1, q2, bt_max, hmx, yi', hy, x1, x2, x3, hT, ib, hO, hN, hSl, u3, u4, ww2, u1, u2, ww, eleft, sD, eD, eV, v1, d13, d14, d15, d16, d6, sS, s1, s1c, st1, hw, eL, erL, es1, eA, s2, s2c, lH, hn2, hn2', hi2, h12, h22, z1, z2, xS, xL, xZ, qS, w27, logL, loud, isE, drawChk, d2, d12, d10, d11, w33]
  have d12 : decide (y.op = 12) = false := df o12
  by_cases o10 : y.op = 10
  · have d10 : decide (y.op = 10) = true := dt o10
    rw [hrl, if_pos (.inl o10), if_neg o2, if_neg o12]
    rcases u3 with ⟨u3, u4⟩ | ⟨u3, u4⟩
    · refine ⟨frC ⟨f.fn, y.a, f.stack.take (f.stack.length - off) ++ laysX f y (topV f off), f.locals, f.slots, f.seed, f.spawned, f.draws, f.state, f.wait, f.out, f.up, f.upSlot⟩ (encL 2 encV (oS (f.stack.take (f.stack.length - off) ++ laysX f y (topV f off)) S2)) (encL 2 encV (oS f.locals L)) (encL 6 encSlt (oS f.slots Z)), .agg [I 1, I 0, I 0, I 0, .snil], ?_, ⟨_, _, _, rfl, yS, y2, y3⟩, ⟨none, rfl, rfl⟩⟩
      rw [fnc_at rfl, body_eq Tryz.func33 rfl rfl]
      simp [argsσ, Vm.results, retK_flat, k0, k1, k2, ec, n1, n2, n3, hr, gz, sz, hK0, hix', hf2, gn, gn0, g1, g2, g10, g20, hlK, exz, -getElem?_pos, w5, q1, q2, bt_max, hmx, yi', hy, x1, x2, x3, hT, ib, hO, hN, hSl, u3, u4, ww2, u1, u2, ww, eleft, sD, eD, eV, v1, d13, d14, d15, d16, d6, sS, s1, s1c, st1, hw, eL, erL, es1, eA, s2, s2c, lH, hn2, hn2', hi2, h12, h22, z1, z2, xS, xL, xZ, qS, w27, logL, loud, isE, drawChk, d2, d12, d10, w33]
    · refine ⟨frC ⟨f.fn, y.a, f.stack.take (f.stack.length - off) ++ laysX f y (topV f off), f.locals, f.slots, f.seed, f.spawned, f.draws, f.state, f.wait, f.out, f.up, f.upSlot⟩ (encL 2 encV (oS (f.stack.take (f.stack.length - off) ++ laysX f y (topV f off)) S2)) (encL 2 encV (oS f.locals L)) (encL 6 encSlt (oS f.slots Z)), .agg [I 1, I 0, I 0, I 0, .snil], ?_, ⟨_, _, _, rfl, yS, y2, y3⟩, ⟨none, rfl, rfl⟩⟩
      rw [fnc_at rfl, body_eq Tryz.func33 rfl rfl]
      simp [argsσ, Vm.results, retK_flat, k0, k1, k2, ec, n1, n2, n3, hr, gz, sz, hK0, hix', hf2, gn, gn0, g1, g2, g10, g20, hlK, exz, -getElem?_pos, w5, q1, q2, bt_max, hmx, yi', hy, x1, x2, x3, hT, ib, hO, hN, hSl, u3, u4, ww2, u1, u2, ww, eleft, sD, eD, eV, v1, d13, d14, d15, d16, d6, sS, s1, s1c, st1, hw, eL, erL, es1, eA, s2, s2c, lH, hn2, hn2', hi2, h12, h22, z1, z2, xS, xL, xZ, qS, w27, logL, loud, isE, drawChk, d2, d12, d10, w33]
  have d10 : decide (y.op = 10) = false := df o10
  by_cases o11 : y.op = 11
  · have d11 : decide (y.op = 11) = true := dt o11
    obtain ⟨id, ver, rest, u, rfl, huv, ha0, hidn, hidl, hhV⟩ := vone (by have := hoff6; rw [o11] at this; simp [off6] at this; omega)
    have hV2 : ∀ o : Ob, (H2.set n o)[id]? = some ⟨ver, 2, encV u :: rest, 0⟩ := fun o => by rw [gV2 id (by omega) (by simp at hidl ⊢; omega), hhV]
    have hOf := rOf_spec u.re u.im
    have hq : ∀ s t, binD Tryz.prog .eql 30 s t (encV (ofG u.re u.im)) (.agg [I 0, I 0]) = some (.bool (decide (u.red = v0))) := fun s t => eq_val s t (ofG u.re u.im) v0
    rw [hrl, ha0, if_neg o2, if_neg o12]
    cases kz : decide (u.red = v0)
    · rw [kz] at hq
      rw [if_neg (by have := of_decide_eq_false kz; rintro (h | h); exact o10 h; exact this h.2)]
      rcases u3 with ⟨u3, u4⟩ | ⟨u3, u4⟩
      · refine ⟨frC ⟨f.fn, f.pc + 1, f.stack.take (f.stack.length - off) ++ laysX f y (topV f off), f.locals, f.slots, f.seed, f.spawned, f.draws, f.state, f.wait, f.out, f.up, f.upSlot⟩ (encL 2 encV (oS (f.stack.take (f.stack.length - off) ++ laysX f y (topV f off)) S2)) (encL 2 encV (oS f.locals L)) (encL 6 encSlt (oS f.slots Z)), .agg [I 1, I 0, I 0, I 0, .snil], ?_, ⟨_, _, _, rfl, yS, y2, y3⟩, ⟨none, rfl, rfl⟩⟩
        rw [fnc_at rfl, body_eq Tryz.func33 rfl rfl]
        simp [argsσ, Vm.results, retK_flat, k0, k1, k2, ec, n1, n2, n3, hr, gz, sz, hK0, hix', hf2, gn, gn0, g1, g2, g10, g20, hlK, exz, -getElem?_pos, w5, q1, q2, bt_max, hmx, yi', hy, x1, x2, x3, hT, ib, hO, hN, hSl, u3, u4, ww2, u1, u2, ww, eleft, sD, eD, eV, v1, d13, d14, d15, d16, d6, sS, s1, s1c, st1, hw, eL, erL, es1, eA, s2, s2c, lH, hn2, hn2', hi2, h12, h22, z1, z2, xS, xL, xZ, qS, w27, logL, loud, isE, drawChk, d2, d12, d10, d11, w33, y0, hV2, hOf, hq]
      · refine ⟨frC ⟨f.fn, f.pc + 1, f.stack.take (f.stack.length - off) ++ laysX f y (topV f off), f.locals, f.slots, f.seed, f.spawned, f.draws, f.state, f.wait, f.out, f.up, f.upSlot⟩ (encL 2 encV (oS (f.stack.take (f.stack.length - off) ++ laysX f y (topV f off)) S2)) (encL 2 encV (oS f.locals L)) (encL 6 encSlt (oS f.slots Z)), .agg [I 1, I 0, I 0, I 0, .snil], ?_, ⟨_, _, _, rfl, yS, y2, y3⟩, ⟨none, rfl, rfl⟩⟩
        rw [fnc_at rfl, body_eq Tryz.func33 rfl rfl]
        simp [argsσ, Vm.results, retK_flat, k0, k1, k2, ec, n1, n2, n3, hr, gz, sz, hK0, hix', hf2, gn, gn0, g1, g2, g10, g20, hlK, exz, -getElem?_pos, w5, q1, q2, bt_max, hmx, yi', hy, x1, x2, x3, hT, ib, hO, hN, hSl, u3, u4, ww2, u1, u2, ww, eleft, sD, eD, eV, v1, d13, d14, d15, d16, d6, sS, s1, s1c, st1, hw, eL, erL, es1, eA, s2, s2c, lH, hn2, hn2', hi2, h12, h22, z1, z2, xS, xL, xZ, qS, w27, logL, loud, isE, drawChk, d2, d12, d10, d11, w33, y0, hV2, hOf, hq]
    · rw [kz] at hq
      rw [if_pos (.inr ⟨o11, of_decide_eq_true kz⟩)]
      rcases u3 with ⟨u3, u4⟩ | ⟨u3, u4⟩
      · refine ⟨frC ⟨f.fn, y.a, f.stack.take (f.stack.length - off) ++ laysX f y (topV f off), f.locals, f.slots, f.seed, f.spawned, f.draws, f.state, f.wait, f.out, f.up, f.upSlot⟩ (encL 2 encV (oS (f.stack.take (f.stack.length - off) ++ laysX f y (topV f off)) S2)) (encL 2 encV (oS f.locals L)) (encL 6 encSlt (oS f.slots Z)), .agg [I 1, I 0, I 0, I 0, .snil], ?_, ⟨_, _, _, rfl, yS, y2, y3⟩, ⟨none, rfl, rfl⟩⟩
        rw [fnc_at rfl, body_eq Tryz.func33 rfl rfl]
        simp [argsσ, Vm.results, retK_flat, k0, k1, k2, ec, n1, n2, n3, hr, gz, sz, hK0, hix', hf2, gn, gn0, g1, g2, g10, g20, hlK, exz, -getElem?_pos, w5, q1, q2, bt_max, hmx, yi', hy, x1, x2, x3, hT, ib, hO, hN, hSl, u3, u4, ww2, u1, u2, ww, eleft, sD, eD, eV, v1, d13, d14, d15, d16, d6, sS, s1, s1c, st1, hw, eL, erL, es1, eA, s2, s2c, lH, hn2, hn2', hi2, h12, h22, z1, z2, xS, xL, xZ, qS, w27, logL, loud, isE, drawChk, d2, d12, d10, d11, w33, y0, hV2, hOf, hq]
      · refine ⟨frC ⟨f.fn, y.a, f.stack.take (f.stack.length - off) ++ laysX f y (topV f off), f.locals, f.slots, f.seed, f.spawned, f.draws, f.state, f.wait, f.out, f.up, f.upSlot⟩ (encL 2 encV (oS (f.stack.take (f.stack.length - off) ++ laysX f y (topV f off)) S2)) (encL 2 encV (oS f.locals L)) (encL 6 encSlt (oS f.slots Z)), .agg [I 1, I 0, I 0, I 0, .snil], ?_, ⟨_, _, _, rfl, yS, y2, y3⟩, ⟨none, rfl, rfl⟩⟩
        rw [fnc_at rfl, body_eq Tryz.func33 rfl rfl]
        simp [argsσ, Vm.results, retK_flat, k0, k1, k2, ec, n1, n2, n3, hr, gz, sz, hK0, hix', hf2, gn, gn0, g1, g2, g10, g20, hlK, exz, -getElem?_pos, w5, q1, q2, bt_max, hmx, yi', hy, x1, x2, x3, hT, ib, hO, hN, hSl, u3, u4, ww2, u1, u2, ww, eleft, sD, eD, eV, v1, d13, d14, d15, d16, d6, sS, s1, s1c, st1, hw, eL, erL, es1, eA, s2, s2c, lH, hn2, hn2', hi2, h12, h22, z1, z2, xS, xL, xZ, qS, w27, logL, loud, isE, drawChk, d2, d12, d10, d11, w33, y0, hV2, hOf, hq]
  have d11 : decide (y.op = 11) = false := df o11
  rw [hrl, if_neg (by omega), if_neg o2, if_neg o12]
  rcases u3 with ⟨u3, u4⟩ | ⟨u3, u4⟩
  · refine ⟨frC ⟨f.fn, f.pc + 1, f.stack.take (f.stack.length - off) ++ laysX f y (topV f off), f.locals, f.slots, f.seed, f.spawned, f.draws, f.state, f.wait, f.out, f.up, f.upSlot⟩ (encL 2 encV (oS (f.stack.take (f.stack.length - off) ++ laysX f y (topV f off)) S2)) (encL 2 encV (oS f.locals L)) (encL 6 encSlt (oS f.slots Z)), .agg [I 1, I 0, I 0, I 0, .snil], ?_, ⟨_, _, _, rfl, yS, y2, y3⟩, ⟨none, rfl, rfl⟩⟩
    rw [fnc_at rfl, body_eq Tryz.func33 rfl rfl]
    simp [argsσ, Vm.results, retK_flat, k0, k1, k2, ec, n1, n2, n3, hr, gz, sz, hK0, hix', hf2, gn, gn0, g1, g2, g10, g20, hlK, exz, -getElem?_pos, w5, q1, q2, bt_max, hmx, yi', hy, x1, x2, x3, hT, ib, hO, hN, hSl, u3, u4, ww2, u1, u2, ww, eleft, sD, eD, eV, v1, d13, d14, d15, d16, d6, sS, s1, s1c, st1, hw, eL, erL, es1, eA, s2, s2c, lH, hn2, hn2', hi2, h12, h22, z1, z2, xS, xL, xZ, qS, w27, logL, loud, isE, drawChk, d2, d12, d10, d11, w33]
  · refine ⟨frC ⟨f.fn, f.pc + 1, f.stack.take (f.stack.length - off) ++ laysX f y (topV f off), f.locals, f.slots, f.seed, f.spawned, f.draws, f.state, f.wait, f.out, f.up, f.upSlot⟩ (encL 2 encV (oS (f.stack.take (f.stack.length - off) ++ laysX f y (topV f off)) S2)) (encL 2 encV (oS f.locals L)) (encL 6 encSlt (oS f.slots Z)), .agg [I 1, I 0, I 0, I 0, .snil], ?_, ⟨_, _, _, rfl, yS, y2, y3⟩, ⟨none, rfl, rfl⟩⟩
    rw [fnc_at rfl, body_eq Tryz.func33 rfl rfl]
    simp [argsσ, Vm.results, retK_flat, k0, k1, k2, ec, n1, n2, n3, hr, gz, sz, hK0, hix', hf2, gn, gn0, g1, g2, g10, g20, hlK, exz, -getElem?_pos, w5, q1, q2, bt_max, hmx, yi', hy, x1, x2, x3, hT, ib, hO, hN, hSl, u3, u4, ww2, u1, u2, ww, eleft, sD, eD, eV, v1, d13, d14, d15, d16, d6, sS, s1, s1c, st1, hw, eL, erL, es1, eA, s2, s2c, lH, hn2, hn2', hi2, h12, h22, z1, z2, xS, xL, xZ, qS, w27, logL, loud, isE, drawChk, d2, d12, d10, d11, w33]
end Go.Proofs.YtlpadffinfijgaaGreatW.Rg
