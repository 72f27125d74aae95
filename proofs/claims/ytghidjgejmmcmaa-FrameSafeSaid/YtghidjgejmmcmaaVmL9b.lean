/- An end that is given is taken once; in whatever order two are given all is the same. No conditions. -/
import Derived.Test.YtghidjgejmmcmaaVmL9a
set_option linter.unusedVariables false
set_option linter.unusedSimpArgs false
namespace Go.Proofs.YtghidjgejmmcmaaW.Rg
open Go.Proofs.YtghidjgejmmcmaaW.Vm Go.Proofs.YtghidjgejmmcmaaW.Md
open Go Go.Proofs
theorem neq_out (s t : Operand) (x y : Ou) : binD Try.prog .neq 36 s t (encO x) (encO y) = some (.bool (!decide (x = y))) := by
  obtain ⟨d, ⟨e, g⟩⟩ := x
  obtain ⟨d', ⟨e', g'⟩⟩ := y
  simp only [binD, scal, eqD, ft36, scalsEq, scalEq]
  simp only [Option.map_some, if_true, Option.some.injEq, D.bool.injEq]
  rw [Bool.eq_iff_iff]
  simp
/-- may an end be given to it? -/
def busyF (f : Fr) (i : Int) : Prop := 0 ≤ i ∧ i < f.slots.length ∧ (slotAt f i).state = 1
def gaveF (f : Fr) (i : Int) (o : Ou) : Fr := if f.state = 1 ∧ f.wait = i then { setSlot f i ⟨2, noK, o⟩ with state := 0, wait := 0 } else setSlot f i ⟨2, noK, o⟩
theorem give_busy {f : Fr} {i : Int} (o : Ou) (h : busyF f i) : giveF f i o = (gaveF f i o, true) := by
  unfold giveF gaveF; rw [if_neg (by obtain ⟨a, b, c⟩ := h; omega)]
theorem give_not {f : Fr} {i : Int} (o : Ou) (h : ¬ busyF f i) : giveF f i o = (f, false) := by
  unfold giveF; rw [if_pos]
  by_cases h1 : i < 0
  · exact .inl h1
  by_cases h2 : (f.slots.length : Int) ≤ i
  · exact .inr (.inl h2)
  · exact .inr (.inr fun h3 => h ⟨by omega, by omega, h3⟩)
theorem give_iff (f : Fr) (i : Int) (o : Ou) : (giveF f i o).2 = true ↔ busyF f i := by
  by_cases h : busyF f i
  · rw [give_busy o h]; simp [h]
  · rw [give_not o h]; simp [h]
theorem gave_slots (f : Fr) (i : Int) (o : Ou) : (gaveF f i o).slots = f.slots.set i.toNat ⟨2, noK, o⟩ := by unfold gaveF; split <;> rfl
theorem gave_at {f : Fr} {i : Int} (o : Ou) (h : busyF f i) : slotAt (gaveF f i o) i = ⟨2, noK, o⟩ := by
  obtain ⟨a, b, c⟩ := h
  unfold slotAt
  rw [gave_slots, List.getElem?_set_self (by omega)]; rfl
theorem gave_ne {f : Fr} {i j : Int} (o : Ou) (hi : 0 ≤ i) (hj : 0 ≤ j) (h : i ≠ j) : slotAt (gaveF f i o) j = slotAt f j := by
  unfold slotAt
  rw [gave_slots, List.getElem?_set_ne (by omega)]
theorem gave_busy_ne {f : Fr} {i j : Int} (o : Ou) (hi : 0 ≤ i) (h : i ≠ j) : busyF (gaveF f i o) j ↔ busyF f j := by
  unfold busyF
  have hl : (gaveF f i o).slots.length = f.slots.length := by rw [gave_slots]; simp
  rw [hl]
  constructor
  · rintro ⟨a, b, c⟩; rw [gave_ne o hi a h] at c; exact ⟨a, b, c⟩
  · rintro ⟨a, b, c⟩; rw [← gave_ne o hi a h] at c; exact ⟨a, b, c⟩
theorem gave_comm {f : Fr} {i j : Int} (o o' : Ou) (hi : 0 ≤ i) (hj : 0 ≤ j) (h : i ≠ j) : gaveF (gaveF f i o) j o' = gaveF (gaveF f j o') i o := by
  have hs : (f.slots.set i.toNat ⟨2, noK, o⟩).set j.toNat ⟨2, noK, o'⟩ = (f.slots.set j.toNat ⟨2, noK, o'⟩).set i.toNat ⟨2, noK, o⟩ := List.set_comm _ _ (by omega)
  unfold gaveF
  by_cases h1 : f.state = 1 ∧ f.wait = i
  · have h2 : ¬ (f.state = 1 ∧ f.wait = j) := fun h3 => h (by rw [← h1.2, h3.2])
    rw [if_pos h1, if_neg h2, if_neg (by simp), if_pos (by exact h1)]
    simp only [setSlot]; rw [hs]
  · rw [if_neg h1]
    by_cases h2 : f.state = 1 ∧ f.wait = j
    · rw [if_pos h2, if_pos (by exact h2), if_neg (by simp)]
      simp only [setSlot]; rw [hs]
    · rw [if_neg h2, if_neg (by exact h2), if_neg (by exact h1)]
      simp only [setSlot]; rw [hs]
theorem give_comm {f : Fr} {i j : Int} (o o' : Ou) (hb : busyF f i) (h : i ≠ j) : (giveF (giveF f i o).1 j o').1 = (giveF (giveF f j o').1 i o).1 := by
  have hi := hb.1
  rw [give_busy o hb]
  by_cases hj : busyF f j
  · rw [give_busy o' hj, give_busy o' ((gave_busy_ne o hi h).2 hj), give_busy o ((gave_busy_ne o' hj.1 (Ne.symm h)).2 hb)]
    exact gave_comm o o' hi hj.1 h
  · rw [give_not o' hj, give_not o' (fun h2 => hj ((gave_busy_ne o hi h).1 h2)), give_busy o hb]
theorem give_len (f : Fr) (i : Int) (o : Ou) : (giveF f i o).1.stack = f.stack ∧ (giveF f i o).1.locals = f.locals ∧ (giveF f i o).1.slots.length = f.slots.length := by
  by_cases h : busyF f i
  · rw [give_busy o h]
    refine ⟨?_, ?_, by rw [gave_slots]; simp⟩ <;> (unfold gaveF; split <;> rfl)
  · rw [give_not o h]; exact ⟨rfl, rfl, rfl⟩
theorem gave_wait {f : Fr} {i : Int} (o : Ou) : ¬ ((gaveF f i o).state = 1 ∧ (gaveF f i o).wait = i) := by
  unfold gaveF
  split
  · simp
  · rename_i h; exact h
theorem ixa {t n e s : Nat} (hu : Try.prog.underlying t = some (.array n e)) (hs : szT Try.prog e = some s) (id ver i j k : Nat) (hk : k < n) : indexAddrD Try.prog t (.ptr id ver i j) (.int .i64 (k : Int)) = some (.ptr id ver i (j + k * s)) := by
  simp only [indexAddrD, hu, hs]
  rw [idxD_nat .i64 hk]; rfl
set_option maxHeartbeats 4000000 in
theorem gives9_law (f : Fr) (a b : Option (List Vl)) (z : Option (List Slt)) (ha : a.getD [] = f.stack) (hb : b.getD [] = f.locals) (hz : z.getD [] = f.slots) (x y : Int) (o o' : Ou) :
    fnc Try.prog cfg R 5 [frC f (encL 2 encV a) (encL 2 encV b) (encL 6 encSlt z), .agg [I x, I y], .agg [I o.trap, I o.v.re, I o.v.im, I o'.trap, I o'.v.re, I o'.v.im]] = some (.bool true) := by
  have exz : ∀ (h : List Ob) (z : Option (List Slt)), exp1 h (encL 6 encSlt z) = some (encL 6 encSlt z) := fun h z => exp_clean (by simp) (by simp)
  have x0 : ∀ id ver i j, indexAddrD Try.prog 56 (.ptr id ver i j) (.int .i64 0) = some (.ptr id ver i (j + 0 * 1)) := fun id ver i j => ixa Try.underlying56 sz3 id ver i j 0 (by decide)
  have x1 : ∀ id ver i j, indexAddrD Try.prog 56 (.ptr id ver i j) (.int .i64 1) = some (.ptr id ver i (j + 1 * 1)) := fun id ver i j => ixa Try.underlying56 sz3 id ver i j 1 (by decide)
  have x2 : ∀ id ver i j, indexAddrD Try.prog 57 (.ptr id ver i j) (.int .i64 0) = some (.ptr id ver i (j + 0 * 3)) := fun id ver i j => ixa Try.underlying57 sz36 id ver i j 0 (by decide)
  have x3 : ∀ id ver i j, indexAddrD Try.prog 57 (.ptr id ver i j) (.int .i64 1) = some (.ptr id ver i (j + 1 * 3)) := fun id ver i j => ixa Try.underlying57 sz36 id ver i j 1 (by decide)
  have hF := smallF_spec f a b z ha hb hz
  rw [fnc_at rfl, body_eq Try.func5 rfl rfl]
  cases hf : smallF f with
  | false => rw [hf] at hF; simp [argsσ, Vm.results, fixed9, hF, exz]
  | true =>
  rw [hf] at hF
  obtain ⟨l1, l2, l3⟩ := smallF_len hf
  obtain ⟨d1, e1, a1, b1, z1, rfl, g1, g2, g3⟩ := give_spec f a b z ha hb hz x o (by omega) (by omega) (by omega)
  obtain ⟨n1, n2, n3⟩ := give_len f x o
  by_cases hbz : busyF f x
  · rw [give_busy o hbz] at e1 g1 g2 g3 n1 n2 n3
    have hat := gave_at o hbz
    have hx0 := hbz.1
    have hxl := hbz.2.1
    have hw := gave_wait (f := f) (i := x) o
    have hnb : ¬ busyF (gaveF f x o) x := fun h => by have := h.2.2; rw [hat] at this; cases this
    have hcm := fun h => give_comm (j := y) o o' hbz h
    rw [give_busy o hbz] at hcm
    simp only at g1 g2 g3 n1 n2 n3 hcm
    generalize hg : gaveF f x o = g at *
    obtain ⟨d2, e2, a2, b2, z2, rfl, j1, j2, j3⟩ := give_spec g a1 b1 z1 g1 g2 g3 x o' (by rw [n1]; omega) (by rw [n2]; omega) (by omega)
    rw [give_not o' hnb] at e2 j1 j2 j3
    simp only at j1 j2 j3
    have r1 := rsame_spec g g a1 b1 a2 b2 z1 z2 g1 g2 g3 j1 j2 j3 (by rw [n1]; omega) (by rw [n2]; omega) (by omega)
    rw [decide_eq_true (Eq.refl g)] at r1
    obtain ⟨n, rfl⟩ : ∃ n : Nat, x = n := ⟨x.toNat, by omega⟩
    have hnl : n < g.slots.length := by omega
    have hix := idxD_nat .i64 hnl
    have hgg : g.slots[n]? = some ⟨2, noK, o⟩ := by
      rw [slotAt_get hnl (n : Int) rfl] at hat
      rw [List.getElem?_eq_getElem hnl, hat]
    have m1 : (z1.getD []).length = g.slots.length := by rw [g3]
    have m2 : (z.getD []).length = f.slots.length := by rw [hz]
    have k1 : decide ((n : Int) < 0) = false := df (by omega)
    have k2 : decide (g.slots.length ≤ n) = false := df (by omega)
    have k3 : decide (g.slots.length = f.slots.length) = true := dt n3
    have k3' : decide ((g.slots.length : Int) = f.slots.length) = true := dt (by omega)
    have q := fun s t => neq_out s t o o
    rw [decide_eq_true (Eq.refl o)] at q
    have hd := dr5_9
    simp [opsAt, opsIn, Try.f5] at hd
    have hdw := Wdraw0 hd
    clear hd
    obtain ⟨d3, e3, a3, b3, z3, rfl, i1, i2, i3⟩ := give_spec g a1 b1 z1 g1 g2 g3 y o' (by rw [n1]; omega) (by rw [n2]; omega) (by omega)
    obtain ⟨d4, e4, a4, b4, z4, rfl, h1, h2, h3⟩ := give_spec f a b z ha hb hz y o' (by omega) (by omega) (by omega)
    obtain ⟨p1, p2, p3⟩ := give_len f y o'
    obtain ⟨d5, e5, a5, b5, z5, rfl, s1, s2, s3⟩ := give_spec (giveF f y o').1 a4 b4 z4 h1 h2 h3 (n : Int) o (by rw [p1]; omega) (by rw [p2]; omega) (by omega)
    obtain ⟨t1, t2, t3⟩ := give_len g y o'
    have r2 := rsame_spec (giveF g y o').1 (giveF (giveF f y o').1 n o).1 a3 b3 a5 b5 z3 z5 i1 i2 i3 s1 s2 s3 (by rw [t1, n1]; omega) (by rw [t2, n2]; omega) (by omega)
    have w1 : (decide (g.state = 1) = false ∧ True) ∨ (decide (g.state = 1) = true ∧ decide (g.wait = (n : Int)) = false) := by
      cases h0 : decide (g.state = 1)
      · exact .inl ⟨rfl, trivial⟩
      · exact .inr ⟨rfl, df (fun h => hw ⟨of_decide_eq_true h0, h⟩)⟩
    have w2 : (decide ((n : Int) = y) = true ∧ True) ∨ (decide ((n : Int) = y) = false ∧ decide ((giveF g y o').1 = (giveF (giveF f y o').1 n o).1) = true) := by
      cases h0 : decide ((n : Int) = y)
      · exact .inr ⟨rfl, dt (hcm (of_decide_eq_false h0))⟩
      · exact .inl ⟨rfl, trivial⟩
    generalize (giveF g y o').2 = B1 at *
    generalize (giveF g y o').1 = G1 at *
    generalize (giveF (giveF f y o').1 n o).2 = B2 at *
    generalize (giveF (giveF f y o').1 n o).1 = G2 at *
    generalize (giveF f y o').2 = B3 at *
    generalize (giveF f y o').1 = G3 at *
    rcases w1 with ⟨u1, u2⟩ | ⟨u1, u2⟩ <;> rcases w2 with ⟨v1, v2⟩ | ⟨v1, v2⟩ <;>
      simp [argsσ, Vm.results, fixed9, hF, exz, x0, x1, x2, x3, e1, e2, e3, e4, e5, r1, r2, u1, u2, v1, v2, k1, k2, k3, k3', m1, m2, g3, hix, hgg, q, hdw]
  · rw [give_not o hbz] at e1 g1 g2 g3
    simp only at g1 g2 g3
    have r1 := rsame_spec f f a1 b1 a b z1 z g1 g2 g3 ha hb hz (by omega) (by omega) (by omega)
    rw [decide_eq_true (Eq.refl f)] at r1
    simp [argsσ, Vm.results, fixed9, hF, exz, x0, x1, x2, x3, e1, r1]
end Go.Proofs.YtghidjgejmmcmaaW.Rg
