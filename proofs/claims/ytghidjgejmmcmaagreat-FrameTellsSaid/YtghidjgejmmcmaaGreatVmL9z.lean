/- What an instruction does, a child's end, how a frame ends, a new one: as the document says. No conditions. -/
import Derived.Test.YtghidjgejmmcmaaGreatVmT10
import Derived.Test.YtghidjgejmmcmaaGreatVmGF
import Derived.Test.YtghidjgejmmcmaaGreatVmFx9
set_option linter.unusedVariables false
set_option linter.unusedSimpArgs false
namespace Go.Proofs.YtghidjgejmmcmaaGreatW.Rg
open Go.Proofs.YtghidjgejmmcmaaGreatW.Vm Go.Proofs.YtghidjgejmmcmaaGreatW.Md
open Go Go.Proofs
/-- what an instruction leaves as it is -/
structure Still (f g : Fr) (c : Ac) : Prop where
  fn : g.fn = f.fn
  seed : g.seed = f.seed
  up : g.up = f.up
  upSlot : g.upSlot = f.upSlot
  loc : g.locals.length = f.locals.length
  slt : g.slots.length = f.slots.length
  sp : g.spawned = f.spawned ∨ c.kind = 2 ∧ g.spawned = IntKind.i64.wrap (f.spawned + 1)
  dr : g.draws = f.draws ∨ g.draws = IntKind.i64.wrap (f.draws + 1)
  ar : c.kind = 2 ∨ c.args = []
  en : c.kind ≠ 4 ∨ g.state = 2
theorem still_end (f : Fr) (o : Ou) : Still f (endF f o).1 (endF f o).2 := ⟨rfl, rfl, rfl, rfl, rfl, rfl, .inl rfl, .inl rfl, .inr rfl, .inr rfl⟩
theorem still_run (p : List Fu) (f : Fr) (x : Instr) : Still f (runX p f x).1 (runX p f x).2 := by
  unfold runX
  split
  · exact still_end f _
  split
  · exact ⟨rfl, rfl, rfl, rfl, rfl, rfl, .inl rfl, .inl rfl, .inr rfl, .inr rfl⟩
  split
  · unfold spawnF
    split
    · exact still_end f _
    · exact ⟨rfl, rfl, rfl, rfl, rfl, by simp [nextF, popF, setSlot], .inr ⟨rfl, rfl⟩, .inl rfl, .inl rfl, .inl (by simp)⟩
  split
  · unfold joinF
    split
    · exact ⟨rfl, rfl, rfl, rfl, rfl, rfl, .inl rfl, .inl rfl, .inr rfl, .inl (by simp [acN])⟩
    split
    · exact still_end f _
    split
    · exact ⟨rfl, rfl, rfl, rfl, rfl, by simp [trapF, endF, setSlot], .inl rfl, .inl rfl, .inr rfl, .inr rfl⟩
    · exact ⟨rfl, rfl, rfl, rfl, rfl, by simp [nextF, pushF, setSlot], .inl rfl, .inl rfl, .inr rfl, .inl (by simp [acN])⟩
  split
  · unfold twoF
    split
    · split
      · exact still_end f _
      · exact ⟨rfl, rfl, rfl, rfl, rfl, rfl, .inl rfl, .inl rfl, .inr rfl, .inl (by simp [acN])⟩
    · exact ⟨rfl, rfl, rfl, rfl, rfl, rfl, .inl rfl, .inl rfl, .inr rfl, .inl (by simp [acN])⟩
  · unfold plainF
    (repeat' split) <;> first
      | exact ⟨rfl, rfl, rfl, rfl, rfl, rfl, .inl rfl, .inl rfl, .inr rfl, .inl (by simp [acN])⟩
      | exact ⟨rfl, rfl, rfl, rfl, by simp [nextF, popF], rfl, .inl rfl, .inl rfl, .inr rfl, .inl (by simp [acN])⟩
      | exact ⟨rfl, rfl, rfl, rfl, rfl, rfl, .inl rfl, .inr rfl, .inr rfl, .inl (by simp [acN])⟩
theorem still_do (p : List Fu) (f : Fr) : Still f (doF p f).1 (doF p f).2 := by
  unfold doF
  split
  · exact ⟨rfl, rfl, rfl, rfl, rfl, rfl, .inl rfl, .inl rfl, .inr rfl, .inl (by simp [acN])⟩
  · split
    · exact still_end f _
    · split
      · exact still_run p f _
      · exact still_end f _
theorem do_none (p : List Fu) (f : Fr) (h : f.state ≠ 0) : doF p f = (f, acN 0) := by unfold doF; rw [if_pos (.inl h)]
theorem enc_len {p : List Fu} (hz : ∀ f ∈ p, f.c.length * 24 ≤ 2 ^ 47) : ∀ g ∈ p, g.c.length < 2 ^ 62 := fun g hg => by have := hz g hg; omega
theorem smallF_len {f : Fr} (h : smallF f = true) : f.stack.length ≤ 40 ∧ f.locals.length ≤ 40 ∧ f.slots.length ≤ 40 := by
  unfold smallF at h
  simp only [Bool.and_eq_true, decide_eq_true_eq] at h
  exact ⟨h.1.1, h.1.2, h.2⟩
theorem top_len (f : Fr) (n : Nat) : (topV f n).length ≤ f.stack.length := by unfold topV; simp
/-- how long the lists get -/
theorem do_len (p : List Fu) (f : Fr) : (doF p f).1.stack.length ≤ f.stack.length + 2 ∧ (doF p f).2.args.length ≤ f.stack.length := by
  have k1 : (trapF f 4).1.stack.length ≤ f.stack.length + 2 ∧ (trapF f 4).2.args.length ≤ f.stack.length := ⟨by simp [trapF, endF], by simp [trapF, endF, acN]⟩
  have kt : ∀ g c, g.stack.length ≤ f.stack.length + 2 → (trapF g c).1.stack.length ≤ f.stack.length + 2 ∧ (trapF g c).2.args.length ≤ f.stack.length := fun g c h => ⟨by simpa [trapF, endF] using h, by simp [trapF, endF, acN]⟩
  unfold doF
  split
  · exact ⟨by simp, by simp [acN]⟩
  · split
    · exact kt f 4 (by omega)
    · split
      · unfold runX
        split
        · exact kt f _ (by omega)
        split
        · exact ⟨by simp [endF, popF]; omega, by simp [endF, acN]⟩
        split
        · unfold spawnF
          split
          · exact kt f _ (by omega)
          · exact ⟨by simp [nextF, popF, setSlot]; omega, top_len f _⟩
        split
        · unfold joinF
          split
          · exact ⟨by simp, by simp [acN]⟩
          split
          · exact kt f _ (by omega)
          split
          · exact kt (setSlot f _ s0) _ (by simp [setSlot])
          · exact ⟨by simp [nextF, pushF, setSlot], by simp [acN]⟩
        split
        · unfold twoF
          split
          · split
            · exact kt f _ (by omega)
            · exact ⟨by simp [nextF, pushF, popF]; omega, by simp [acN]⟩
          · exact ⟨by simp [nextF, pushF, popF]; omega, by simp [acN]⟩
        · unfold plainF
          (repeat' split) <;> refine ⟨?_, by simp [acN]⟩ <;> simp [nextF, pushF, popF] <;> omega
      · exact kt f 3 (by omega)
theorem eqb_self (s t : Operand) (x : Bool) : binD Tryz.prog .eql 4 s t (.bool x) (.bool x) = some (.bool true) := by
  cases x <;> kernel_rfl
theorem eqo_self (s t : Operand) (x : Ou) : binD Tryz.prog .eql 29 s t (encO x) (encO x) = some (.bool true) := by
  obtain ⟨d, ⟨e, g⟩⟩ := x
  simp only [binD, scal, eqD, ft29, scalsEq, scalEq]
  simp
theorem offP_le {p : List Fu} (h : ∀ g ∈ p, g.arity ≤ 2 ^ 63 - 1) (x : Instr) : offP p x ≤ 2 ^ 63 - 1 := by
  unfold offP
  split
  · cases e : p[x.a.toNat]? with
    | none => simp
    | some g => simpa using h g (List.mem_of_getElem? e)
  · have := off6_le x.op; omega
theorem give_len (f : Fr) (i : Int) (o : Ou) : (giveF f i o).1.stack.length = f.stack.length ∧ (giveF f i o).1.locals.length = f.locals.length ∧ (giveF f i o).1.slots.length = f.slots.length := by
  unfold giveF
  split
  · exact ⟨rfl, rfl, rfl⟩
  · split <;> exact ⟨rfl, rfl, by simp [setSlot]⟩
theorem new_len (p : List Fu) (fn : Int) (args : List Vl) (s : Int) (hb : ∀ g ∈ p, fmay g = true → g.locals ≤ 16 ∧ g.slots ≤ 8) : ((newF p fn args s).getD fr0).stack.length < 2 ^ 62 ∧ ((newF p fn args s).getD fr0).locals.length < 2 ^ 62 ∧ ((newF p fn args s).getD fr0).slots.length < 2 ^ 62 := by
  unfold newF
  split
  · rename_i h
    split
    · exact ⟨by simp [fr0], by simp [fr0], by simp [fr0]⟩
    · rename_i x hx
      have hm := List.mem_of_getElem? hx
      have hf := mayP_f h.1 hm
      have hh := fmay_head hf
      split
      · rename_i h2
        have : args.length ≤ 16 := by omega
        refine ⟨by simp, by simp; omega, by simp; omega⟩
      · exact ⟨by simp [fr0], by simp [fr0], by simp [fr0]⟩
  · exact ⟨by simp [fr0], by simp [fr0], by simp [fr0]⟩
set_option maxHeartbeats 8000000 in
theorem tells9_law (p : Option (List Fu)) (hb : Bnd (p.getD [])) (hz : ∀ f ∈ p.getD [], f.c.length * 24 ≤ 2 ^ 47) (har : ∀ g ∈ p.getD [], g.arity ≤ 2 ^ 63 - 1) (f : Fr) (a b : Option (List Vl)) (z : Option (List Slt)) (ha : a.getD [] = f.stack) (hb' : b.getD [] = f.locals) (hz' : z.getD [] = f.slots)
    (sl fn sd : Int) (o : Ou) (args : Option (List Vl)) :
    fnc Tryz.prog cfg R 3 [encProg p, frC f (encL 2 encV a) (encL 2 encV b) (encL 6 encSlt z), .agg [I sl, I o.trap, I o.v.re, I o.v.im, I fn, encL 2 encV args, I sd]] = some (.bool true) := by
  have exz : ∀ (h : List Ob) (z : Option (List Slt)), exp1 h (encL 6 encSlt z) = some (encL 6 encSlt z) := fun h z => exp_clean (by simp) (by simp)
  have hlen := hb.len
  have hS := small_spec p 300
  rw [fnc_at rfl, body_eq Tryz.func3 rfl rfl]
  cases hs : small (p.getD []) 300 with
  | false => rw [hs] at hS; simp [argsσ, Vm.results, hS, fixed9]
  | true =>
  rw [hs] at hS
  have hF := smallF_spec f a b z ha hb' hz'
  cases hf : smallF f with
  | false => rw [hf] at hF; simp [argsσ, Vm.results, hS, fixed9, hF, exz]
  | true =>
  rw [hf] at hF
  cases k0 : decide (40 < (args.getD []).length) with
  | true =>
    have k0' : decide ((40 : Int) < ((args.getD []).length : Int)) = true := dt (by have := of_decide_eq_true k0; omega)
    simp [argsσ, Vm.results, hS, fixed9, hF, exz, k0, k0']
  | false =>
  have k0' : decide ((40 : Int) < ((args.getD []).length : Int)) = false := df (by have := of_decide_eq_false k0; omega)
  have hal := of_decide_eq_false k0
  obtain ⟨l1, l2, l3⟩ := smallF_len hf
  have hoB := offP_le har
  obtain ⟨d1, d2, eD, ⟨a1, b1, z1, rfl, g1, g2, g3⟩, ⟨k, rfl, g4⟩⟩ := Do_spec p f _ ⟨a, b, z, rfl, ha, hb', hz'⟩ (by omega) (by omega) (by omega) (enc_len hz) (by omega)
  obtain ⟨d3, d4, eR, ⟨a2, b2, z2, rfl, r1, r2, r3⟩, ⟨k', rfl, r4⟩⟩ := rdo_spec p f _ ⟨a, b, z, rfl, ha, hb', hz'⟩ (by omega) (by omega) (by omega) (enc_len hz) (by omega) hoB
  have st := still_do (p.getD []) f
  have ln := do_len (p.getD []) f
  obtain ⟨d5, eG, a3, b3, z3, rfl, s1, s2, s3⟩ := give_spec f a b z ha hb' hz' sl o (by omega) (by omega) (by omega)
  obtain ⟨d6, eG', a4, b4, z4, rfl, t1, t2, t3⟩ := rgive_spec f a b z ha hb' hz' sl o (by omega) (by omega) (by omega)
  obtain ⟨n1, n2, n3⟩ := give_len f sl o
  have eF := final_spec f a b z hz' (by omega)
  have eF' := rfinal_spec f a b z hz' (by omega)
  obtain ⟨d7, eN, a5, b5, z5, rfl, u1, u2, u3⟩ := new_spec p hlen fn args sd (by omega)
  obtain ⟨d8, eN', a6, b6, z6, rfl, v1, v2, v3⟩ := rnew_spec p hb hlen fn args sd (by omega)
  obtain ⟨w1, w2, w3⟩ := new_len (p.getD []) fn (args.getD []) sd (fun g hg hm => by have := fmay_head hm; omega)
  have q1 := rsame_spec _ _ a1 b1 a2 b2 z1 z2 g1 g2 g3 r1 r2 r3 (by omega) (by rw [st.loc]; omega) (by rw [st.slt]; omega)
  have q2 := sameAct_spec _ _ k k' g4 r4 (by omega)
  have q3 := rsame_spec _ _ a3 b3 a4 b4 z3 z4 s1 s2 s3 t1 t2 t3 (by omega) (by omega) (by omega)
  have q4 := rsame_spec _ _ a5 b5 a6 b6 z5 z6 u1 u2 u3 v1 v2 v3 w1 w2 w3
  have q5 := same_spec f _ a b a1 b1 z z1 ha hb' hz' g1 g2 g3 (by omega) (by omega) (by omega)
  have q6 := rsame_spec f _ a b a1 b1 z z1 ha hb' hz' g1 g2 g3 (by omega) (by omega) (by omega)
  have q7 := same_spec f f a b a b z z ha hb' hz' ha hb' hz' (by omega) (by omega) (by omega)
  rw [decide_eq_true (Eq.refl _)] at q1 q2 q3 q4 q7
  have hd := dr3_11
  simp [opsAt, opsIn, Tryz.f3] at hd
  have hdw := Wdraw0 hd
  clear hd st ln n1 n2 n3 w1 w2 w3 g1 g2 g3 g4 r1 r2 r3 r4 s1 s2 s3 t1 t2 t3 u1 u2 u3 v1 v2 v3
  generalize (doF (p.getD []) f).1 = G at *
  generalize (doF (p.getD []) f).2 = C at *
  generalize (giveF f sl o).1 = G2 at *
  generalize (giveF f sl o).2 = B2 at *
  generalize (finF f).1 = O at *
  generalize (finF f).2 = B3 at *
  generalize (newF (p.getD []) fn (args.getD []) sd).isSome = B4 at *
  generalize (newF (p.getD []) fn (args.getD []) sd).getD fr0 = G4 at *
  generalize decide (f = G) = B5 at *
  simp [argsσ, Vm.results, hS, fixed9, hF, exz, k0, k0', eD, eR, eG, eG', eF, eF', eN, eN', q1, q2, q3, q4, q5, q6, q7, eqb_self, eqo_self, hdw]
end Go.Proofs.YtghidjgejmmcmaaGreatW.Rg
