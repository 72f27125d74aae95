/- A frame that waits, or ends, does nothing; what an instruction leaves as it is. No conditions. -/
import Derived.Test.YtghidjgejmmcmaaVmGD
import Derived.Test.YtghidjgejmmcmaaVmGF
import Derived.Test.YtghidjgejmmcmaaVmFx9
set_option linter.unusedVariables false
set_option linter.unusedSimpArgs false
namespace Go.Proofs.YtghidjgejmmcmaaW.Rg
open Go.Proofs.YtghidjgejmmcmaaW.Vm Go.Proofs.YtghidjgejmmcmaaW.Md
open Go Go.Proofs
/-- what an instruction leaves as it is -/
structure Still (f g : Fr) (c : Ac) : Prop where
  fn : g.fn = f.fn
  seed : g.seed = f.seed
  up : g.up = f.up
  upSlot : g.upSlot = f.upSlot
  loc : g.locals.length = f.locals.length
  slt : g.slots.length = f.slots.length
  sp : g.spawned = f.spawned ∨ c.kind = 2 ∧ g.spawned = IntKind.i64.wrap (f.spawned + 1)
  dr : g.draws = f.draws ∨ g.draws = IntKind.i64.wrap (f.draws + 1)
  ar : c.kind = 2 ∨ c.args = []
  en : c.kind ≠ 4 ∨ g.state = 2
theorem still_end (f : Fr) (o : Ou) : Still f (endF f o).1 (endF f o).2 := ⟨rfl, rfl, rfl, rfl, rfl, rfl, .inl rfl, .inl rfl, .inr rfl, .inr rfl⟩
theorem still_run (p : List Fu) (f : Fr) (x : Instr) : Still f (runX p f x).1 (runX p f x).2 := by
  unfold runX
  split
  · exact still_end f _
  split
  · exact ⟨rfl, rfl, rfl, rfl, rfl, rfl, .inl rfl, .inl rfl, .inr rfl, .inr rfl⟩
  split
  · unfold spawnF
    split
    · exact still_end f _
    · exact ⟨rfl, rfl, rfl, rfl, rfl, by simp [nextF, popF, setSlot], .inr ⟨rfl, rfl⟩, .inl rfl, .inl rfl, .inl (by simp)⟩
  split
  · unfold joinF
    split
    · exact ⟨rfl, rfl, rfl, rfl, rfl, rfl, .inl rfl, .inl rfl, .inr rfl, .inl (by simp [acN])⟩
    split
    · exact still_end f _
    split
    · exact ⟨rfl, rfl, rfl, rfl, rfl, by simp [trapF, endF, setSlot], .inl rfl, .inl rfl, .inr rfl, .inr rfl⟩
    · exact ⟨rfl, rfl, rfl, rfl, rfl, by simp [nextF, pushF, setSlot], .inl rfl, .inl rfl, .inr rfl, .inl (by simp [acN])⟩
  split
  · unfold twoF
    split
    · split
      · exact still_end f _
      · exact ⟨rfl, rfl, rfl, rfl, rfl, rfl, .inl rfl, .inl rfl, .inr rfl, .inl (by simp [acN])⟩
    · exact ⟨rfl, rfl, rfl, rfl, rfl, rfl, .inl rfl, .inl rfl, .inr rfl, .inl (by simp [acN])⟩
  · unfold plainF
    (repeat' split) <;> first
      | exact ⟨rfl, rfl, rfl, rfl, rfl, rfl, .inl rfl, .inl rfl, .inr rfl, .inl (by simp [acN])⟩
      | exact ⟨rfl, rfl, rfl, rfl, by simp [nextF, popF], rfl, .inl rfl, .inl rfl, .inr rfl, .inl (by simp [acN])⟩
      | exact ⟨rfl, rfl, rfl, rfl, rfl, rfl, .inl rfl, .inr rfl, .inr rfl, .inl (by simp [acN])⟩
theorem still_do (p : List Fu) (f : Fr) : Still f (doF p f).1 (doF p f).2 := by
  unfold doF
  split
  · exact ⟨rfl, rfl, rfl, rfl, rfl, rfl, .inl rfl, .inl rfl, .inr rfl, .inl (by simp [acN])⟩
  · split
    · exact still_end f _
    · split
      · exact still_run p f _
      · exact still_end f _
theorem do_none (p : List Fu) (f : Fr) (h : f.state ≠ 0) : doF p f = (f, acN 0) := by unfold doF; rw [if_pos (.inl h)]
theorem neq_rf (s t : Operand) (x y : Rf) : binD Try.prog .neq 38 s t (encRf x) (encRf y) = some (.bool (!decide (x = y))) := by
  obtain ⟨d, e⟩ := x
  obtain ⟨d', e'⟩ := y
  simp only [binD, scal, eqD, ft38, scalsEq, scalEq]
  simp only [Option.map_some, if_true, Option.some.injEq, D.bool.injEq]
  rw [Bool.eq_iff_iff]
  simp
theorem enc_len {p : List Fu} (hz : ∀ f ∈ p, f.c.length * 24 ≤ 2 ^ 47) : ∀ g ∈ p, g.c.length < 2 ^ 62 := fun g hg => by have := hz g hg; omega
theorem smallF_len {f : Fr} (h : smallF f = true) : f.stack.length ≤ 40 ∧ f.locals.length ≤ 40 ∧ f.slots.length ≤ 40 := by
  unfold smallF at h
  simp only [Bool.and_eq_true, decide_eq_true_eq] at h
  exact ⟨h.1.1, h.1.2, h.2⟩
theorem top_len (f : Fr) (n : Nat) : (topV f n).length ≤ f.stack.length := by unfold topV; simp
/-- how long the lists get -/
theorem do_len (p : List Fu) (f : Fr) : (doF p f).1.stack.length ≤ f.stack.length + 2 ∧ (doF p f).2.args.length ≤ f.stack.length := by
  have k1 : (trapF f 4).1.stack.length ≤ f.stack.length + 2 ∧ (trapF f 4).2.args.length ≤ f.stack.length := ⟨by simp [trapF, endF], by simp [trapF, endF, acN]⟩
  have kt : ∀ g c, g.stack.length ≤ f.stack.length + 2 → (trapF g c).1.stack.length ≤ f.stack.length + 2 ∧ (trapF g c).2.args.length ≤ f.stack.length := fun g c h => ⟨by simpa [trapF, endF] using h, by simp [trapF, endF, acN]⟩
  unfold doF
  split
  · exact ⟨by simp, by simp [acN]⟩
  · split
    · exact kt f 4 (by omega)
    · split
      · unfold runX
        split
        · exact kt f _ (by omega)
        split
        · exact ⟨by simp [endF, popF]; omega, by simp [endF, acN]⟩
        split
        · unfold spawnF
          split
          · exact kt f _ (by omega)
          · exact ⟨by simp [nextF, popF, setSlot]; omega, top_len f _⟩
        split
        · unfold joinF
          split
          · exact ⟨by simp, by simp [acN]⟩
          split
          · exact kt f _ (by omega)
          split
          · exact kt (setSlot f _ s0) _ (by simp [setSlot])
          · exact ⟨by simp [nextF, pushF, setSlot], by simp [acN]⟩
        split
        · unfold twoF
          split
          · split
            · exact kt f _ (by omega)
            · exact ⟨by simp [nextF, pushF, popF]; omega, by simp [acN]⟩
          · exact ⟨by simp [nextF, pushF, popF]; omega, by simp [acN]⟩
        · unfold plainF
          (repeat' split) <;> refine ⟨?_, by simp [acN]⟩ <;> simp [nextF, pushF, popF] <;> omega
      · exact kt f 3 (by omega)
set_option maxHeartbeats 8000000 in
theorem still9_law (p : Option (List Fu)) (hb : Bnd (p.getD [])) (hz : ∀ f ∈ p.getD [], f.c.length * 24 ≤ 2 ^ 47) (f : Fr) (a b : Option (List Vl)) (z : Option (List Slt)) (ha : a.getD [] = f.stack) (hb' : b.getD [] = f.locals) (hz' : z.getD [] = f.slots) :
    fnc Try.prog cfg R 4 [encProg p, frC f (encL 2 encV a) (encL 2 encV b) (encL 6 encSlt z)] = some (.bool true) := by
  have exz : ∀ (h : List Ob) (z : Option (List Slt)), exp1 h (encL 6 encSlt z) = some (encL 6 encSlt z) := fun h z => exp_clean (by simp) (by simp)
  have hlen := hb.len
  have hS := small_spec p 300
  rw [fnc_at rfl, body_eq Try.func4 rfl rfl]
  cases hs : small (p.getD []) 300 with
  | false => rw [hs] at hS; simp [argsσ, Vm.results, hS, fixed9]
  | true =>
  rw [hs] at hS
  have hF := smallF_spec f a b z ha hb' hz'
  cases hf : smallF f with
  | false => rw [hf] at hF; simp [argsσ, Vm.results, hS, fixed9, hF, exz]
  | true =>
  rw [hf] at hF
  obtain ⟨l1, l2, l3⟩ := smallF_len hf
  obtain ⟨d1, d2, eD, ⟨a1, b1, z1, rfl, g1, g2, g3⟩, ⟨k, rfl, g4⟩⟩ := Do_spec p f _ ⟨a, b, z, rfl, ha, hb', hz'⟩ (by omega) (by omega) (by omega) (enc_len hz) (by omega)
  have st := still_do (p.getD []) f
  have ln := do_len (p.getD []) f
  have nn := do_none (p.getD []) f
  generalize hg : (doF (p.getD []) f).1 = g at *
  generalize hc : (doF (p.getD []) f).2 = c at *
  have e1 := rsame_spec g g a1 b1 a1 b1 z1 z1 g1 g2 g3 g1 g2 g3 (by omega) (by rw [st.loc]; omega) (by rw [st.slt]; omega)
  have e2 := sameAct_spec c c k k g4 g4 (by omega)
  have e3 := rsame_spec f g a b a1 b1 z z1 ha hb' hz' g1 g2 g3 (by omega) (by omega) (by omega)
  rw [decide_eq_true (Eq.refl g)] at e1
  rw [decide_eq_true (Eq.refl c)] at e2
  have q1 : decide (g.fn = f.fn) = true := dt st.fn
  have q2 : decide (g.seed = f.seed) = true := dt st.seed
  have q3 := fun s t => neq_rf s t g.up f.up
  rw [show decide (g.up = f.up) = true from dt st.up] at q3
  have q4 : decide (g.upSlot = f.upSlot) = true := dt st.upSlot
  have q5 : decide (g.locals.length = f.locals.length) = true := dt st.loc
  have q6 : decide (g.slots.length = f.slots.length) = true := dt st.slt
  have c1 : decide ((g.locals.length : Int) = f.locals.length) = true := dt (by rw [st.loc])
  have c2 : decide ((g.slots.length : Int) = f.slots.length) = true := dt (by rw [st.slt])
  have m1 : (b1.getD []).length = g.locals.length := by rw [g2]
  have m2 : (z1.getD []).length = g.slots.length := by rw [g3]
  have m3 : (b.getD []).length = f.locals.length := by rw [hb']
  have m4 : (z.getD []).length = f.slots.length := by rw [hz']
  have m5 : (k.getD []).length = c.args.length := by rw [g4]
  have hr : fnc Try.prog cfg R 4 [encProg p, frC f (encL 2 encV a) (encL 2 encV b) (encL 6 encSlt z)] = fnc Try.prog cfg R 4 [encProg p, frC f (encL 2 encV a) (encL 2 encV b) (encL 6 encSlt z)] := rfl
  have w1 : (decide (f.state = 0) = true ∧ True ∧ True) ∨ decide (f.state = 0) = false ∧ decide (f = g) = true ∧ decide (c.kind = 0) = true := by
    cases h0 : decide (f.state = 0)
    · have h := nn (of_decide_eq_false h0)
      rw [h] at hg hc
      exact .inr ⟨rfl, dt hg, dt (by rw [← hc]; rfl)⟩
    · exact .inl ⟨rfl, trivial, trivial⟩
  have w2 : (decide (g.spawned = f.spawned) = true ∧ True ∧ True) ∨ decide (g.spawned = f.spawned) = false ∧ decide (c.kind = 2) = true ∧ decide (g.spawned = IntKind.i64.wrap (f.spawned + 1)) = true := by
    cases h0 : decide (g.spawned = f.spawned)
    · rcases st.sp with h | h
      · exact absurd h (of_decide_eq_false h0)
      · exact .inr ⟨rfl, dt h.1, dt h.2⟩
    · exact .inl ⟨rfl, trivial, trivial⟩
  have w3 : (decide (g.draws = f.draws) = true ∧ True) ∨ decide (g.draws = f.draws) = false ∧ decide (g.draws = IntKind.i64.wrap (f.draws + 1)) = true := by
    cases h0 : decide (g.draws = f.draws)
    · rcases st.dr with h | h
      · exact absurd h (of_decide_eq_false h0)
      · exact .inr ⟨rfl, dt h⟩
    · exact .inl ⟨rfl, trivial⟩
  have w4 : (decide (c.kind = 2) = true ∧ True ∧ True) ∨ decide (c.kind = 2) = false ∧ decide (c.args = []) = true ∧ decide ((c.args.length : Int) = 0) = true := by
    cases h0 : decide (c.kind = 2)
    · rcases st.ar with h | h
      · exact absurd h (of_decide_eq_false h0)
      · exact .inr ⟨rfl, dt h, dt (by rw [h]; rfl)⟩
    · exact .inl ⟨rfl, trivial, trivial⟩
  have w5 : (decide (c.kind = 4) = false ∧ True) ∨ decide (c.kind = 4) = true ∧ decide (g.state = 2) = true := by
    cases h0 : decide (c.kind = 4)
    · exact .inl ⟨rfl, trivial⟩
    · rcases st.en with h | h
      · exact absurd (of_decide_eq_true h0) h
      · exact .inr ⟨rfl, dt h⟩
  clear st nn hg hc hr ln
  rcases w1 with ⟨x1, x2, x3⟩ | ⟨x1, x2, x3⟩ <;> rcases w2 with ⟨y1, y2, y3⟩ | ⟨y1, y2, y3⟩ <;> rcases w4 with ⟨u1, u2, u3⟩ | ⟨u1, u2, u3⟩ <;> (try (rw [u1] at y2; cases y2; done)) <;> rcases w3 with ⟨t1, t2⟩ | ⟨t1, t2⟩ <;> rcases w5 with ⟨v1, v2⟩ | ⟨v1, v2⟩ <;>
    simp [argsσ, Vm.results, hS, fixed9, hF, exz, eD, e1, e2, e3, q1, q2, q3, q4, m1, m2, m3, m4, m5, q5, q6, c1, c2, x1, x2, x3, y1, y2, y3, t1, t2, u1, u2, u3, v1, v2]
end Go.Proofs.YtghidjgejmmcmaaW.Rg
