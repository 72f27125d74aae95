/- The document's steps with a frame: spawns, joins. No conditions. -/
import Derived.Test.YtlpadffinfijgaaGreatVmT4
set_option linter.unusedVariables false
set_option linter.unusedSimpArgs false
namespace Go.Proofs.YtlpadffinfijgaaGreatW.Rg
open Go.Proofs.YtlpadffinfijgaaGreatW.Vm Go.Proofs.YtlpadffinfijgaaGreatW.Md
open Go Go.Proofs
section
variable {H : List Ob} {f : Fr} {S L Z V : D} {vs : List Vl} {P : Nat → Prop}
theorem Rv.base {o : Ob} {id : Nat} {g : Fr} {c : Ac} {r : Option (D × List Ob)} (h : Rv P (H.set id o) g c r) (hid : P id) : Rv P H g c r := by
  obtain ⟨H', S', L', Z', A', e, i1, i2, i3, i4, i5, i6⟩ := h
  refine ⟨H', S', L', Z', A', e, i1, i2, i3, i4, fun i hi hn => ?_, fun i hi => ?_⟩
  · rw [i5 i (by simpa using hi) hn, List.getElem?_set_ne (by rintro rfl; exact hn hid)]
  · have := i6 i hi; simpa using this
/-- a slot is written -/
theorem Fv.setZ {id ver : Nat} {rest : List D} (h : Fv H f S L (.own 6 id ver 0 f.slots.length)) (hh : H[id]? = some ⟨ver, 6, f.slots.map encSlt ++ rest, 0⟩) (i : Nat) (hi : i < f.slots.length) (s : Slt) (k : Int) (hk : k.toNat = i) :
    Fv (H.set id ⟨ver, 6, (f.slots.map encSlt ++ rest).set i (encSlt s), 0⟩) (setSlot f k s) S L (.own 6 id ver 0 f.slots.length) := by
  have hid := (List.getElem?_eq_some_iff.1 hh).1
  have e : (f.slots.map encSlt ++ rest).set i (encSlt s) = (setSlot f k s).slots.map encSlt ++ rest := by
    unfold setSlot
    simp only [hk]
    rw [List.set_append_left _ _ (by simpa using hi), List.map_set]
  rw [e]
  have nS : ¬ At S id := fun h1 => h.sz id h1 rfl
  have nL : ¬ At L id := fun h1 => h.lz id h1 rfl
  exact ⟨h.s.set nS _, h.l.set nL _, .inr (.inr ⟨id, ver, rest, by unfold setSlot; simp, List.getElem?_set_self hid⟩), h.sl, h.sz, h.lz⟩
theorem rspawn_spec (p : List Fu) (h : Fv H f S L Z) (x : Instr) (hx : imay x = true) (n : Nat) (hn : offP p x = n) (hnl : n ≤ f.stack.length) (hV : IsS H 2 ((topV f n).map encV) V) (hZV : ∀ i, At Z i → ¬ At V i) (hb : x.b < f.slots.length) (hl : f.stack.length ≤ 2 ^ 40) (hpc : 0 ≤ f.pc ∧ f.pc < 2 ^ 62)
    (hP : ∀ i, Fp S L Z V i → P i) (hP2 : ∀ i, P i → i < H.length) : Rv P H (spawnF p f x).1 (spawnF p f x).2 (body Tryz.prog R 68 [frC f S L Z, encInstr x, V] H) := by
  have hi := imay_iff.1 hx
  obtain ⟨m, hm⟩ : ∃ m : Nat, x.b = m := ⟨x.b.toNat, by omega⟩
  have hml : m < f.slots.length := by omega
  obtain ⟨id, ver, rest, rfl, hh, hel, hix⟩ := h.z.ix (t := 41) un41 sz82 hml
  have hid := (List.getElem?_eq_some_iff.1 hh).1
  have n1 := h.s.one; have n2 := h.l.one
  have c1 := h.s.cells
  have v1 := hV.one; have vc := hV.cells
  have hh' : ∀ t, (H ++ t)[id]? = some ⟨ver, 6, f.slots.map encSlt ++ rest, 0⟩ := fun t => by rw [get_lt hid, hh]
  have yi := idxD_nat .i64 hml
  have yi' : idxD f.slots.length (I x.b) = some m := by rw [hm]; exact yi
  have hsl := slotAt_get hml x.b hm
  have d5 := dr68_5; have d8 := dr68_8
  simp [opsAt, opsIn, Tryz.f68] at d5 d8
  have w5 := Wdraw d5; have w8 := Wdraw d8
  clear d5 d8
  unfold spawnF
  rw [hsl]
  cases k1 : decide (f.slots[m].state = 0)
  · rw [if_pos (of_decide_eq_false k1)]
    obtain ⟨H', S', L', Z', A', e, e1, e2, m1, m2, m3, m4, fin⟩ := (rtrap_spec (P := P) (h.app [⟨0, 16, [frC f S L (.own 6 id ver 0 f.slots.length)], 0⟩, ⟨0, 3, [encInstr x], 0⟩, ⟨0, 16, [zF], 0⟩, ⟨0, 5, [zA], 0⟩]) 2 (fun i hi => hP i (by
      rcases hi with h1 | h1 | h1 | h1
      · exact .inl h1
      · exact .inr (.inl h1)
      · exact .inr (.inr (.inl h1))
      · exact absurd h1 (at_snil i))) (fun i hi => by have := hP2 i hi; simp; omega)).lay (p := H.length + 2) (q := H.length + 3) (o1 := ⟨0, 16, [zF], 0⟩) (o2 := ⟨0, 5, [zA], 0⟩) hP2 (by simp) (by simp) (by simp) (by simp)
    have hl1 := (List.getElem?_eq_some_iff.1 e1).1
    have hl2 := (List.getElem?_eq_some_iff.1 e2).1
    have e2' : ∀ o : Ob, (H'.set (H.length + 2) o)[H.length + 3]? = some ⟨0, 5, [zA], 0⟩ := fun o => by rw [List.getElem?_set_ne (by omega), e2]
    generalize f.slots[m] = s at *
    generalize (trapF f 2).1 = g at *
    generalize (trapF f 2).2 = c at *
    have hg : body Tryz.prog R 68 [frC f S L (.own 6 id ver 0 f.slots.length), encInstr x, V] H = some (.tup [frC g S' L' Z', encAc c A'], (H'.set (H.length + 2) ⟨0, 16, [frC g S' L' Z'], 0⟩).set (H.length + 3) ⟨0, 5, [encAc c A'], 0⟩) := by
      rw [body_eq Tryz.func68 rfl rfl]
      simp [argsσ, Vm.results, n1, n2, yi', hh', hel, k1, e, e1, e2, e2', m1, m2, m3, m4, hl1, hl2, gs0 hl1, gs0 hl2, -getElem?_pos]
    rw [hg]
    exact fin _ _
  · rw [if_neg (by simpa using of_decide_eq_true k1)]
    have hnt : (offP p x).toNat = n := by omega
    rw [hnt]
    have hVl : lenS V = some n := by rw [hV.len]; simp [topV]; omega
    have hsub : IntKind.i64.wrap ((f.stack.length : Int) - n) = ((f.stack.length - n : Nat) : Int) := by rw [wr (by omega) (by omega)]; omega
    have hSl : lenS S = some f.stack.length := by rw [h.s.len]; simp
    obtain ⟨S1, sS, iS, aS⟩ := h.s.takeD (t := 24) un24 sz30 (f.stack.length - n) (by simp)
    have hn1 := iS.one; have hc1 := iS.cells
    have hw : IntKind.i64.wrap (f.pc + 1) = f.pc + 1 := wr (by omega) (by omega)
    have hC := rChild_spec f.seed f.spawned
    have q1 : beq S1 S1 = true := by rcases iS with ⟨e, _⟩ | ⟨e, _⟩ | ⟨_, _, _, e, _⟩ <;> rw [e] <;> simp
    have q2 : beq L L = true := by rcases h.l with ⟨e, _⟩ | ⟨e, _⟩ | ⟨_, _, _, e, _⟩ <;> rw [e] <;> simp
    have q3 : beq V V = true := by rcases hV with ⟨e, _⟩ | ⟨e, _⟩ | ⟨_, _, _, e, _⟩ <;> rw [e] <;> simp
    have F2 := h.setZ hh m hml ⟨1, noK, o0⟩ x.b (by omega)
    have stl : ∀ t o, (H ++ t).set id o = H.set id o ++ t := fun t o => set_lt hid o
    have hlen : ∀ o : Ob, (H.set id o).length = H.length := fun o => by simp
    generalize hG : H.set id ⟨ver, 6, (f.slots.map encSlt ++ rest).set m (encSlt ⟨1, noK, o0⟩), 0⟩ = G at *
    have hG' : H.set id ⟨ver, 6, (f.slots.map encSlt ++ rest).set m (.agg [I 1, I (-1), I 0, I 0, I 0, I 0]), 0⟩ = G := hG
    have hGl : G.length = H.length := by rw [← hG]; simp
    have hGs : ∀ k o t, (G ++ t).set (H.length + k) o = G ++ t.set k o := fun k o t => set_app hGl k o
    have hGg : ∀ k (t : List Ob), (G ++ t)[H.length + k]? = t[k]? := fun k t => get_app hGl k
    have hGs0 : ∀ o t, (G ++ t).set H.length o = G ++ t.set 0 o := fun o t => set_app0 hGl o
    have hGg0 : ∀ (t : List Ob), (G ++ t)[H.length]? = t[0]? := fun t => get_app0 hGl
    generalize f.slots[m] = s at *
    refine Rv.base (id := id) (o := ⟨ver, 6, (f.slots.map encSlt ++ rest).set m (encSlt ⟨1, noK, o0⟩), 0⟩) ?_ (hP id (.inr (.inr (.inl rfl))))
    rw [hG]
    refine ⟨G ++ [⟨0, 16, [frC { nextF (popF (setSlot f x.b ⟨1, noK, o0⟩) n) with spawned := IntKind.i64.wrap (f.spawned + 1) } S1 L (.own 6 id ver 0 f.slots.length)], 0⟩, ⟨0, 3, [encInstr x], 0⟩, ⟨0, 16, [frC { nextF (popF (setSlot f x.b ⟨1, noK, o0⟩) n) with spawned := IntKind.i64.wrap (f.spawned + 1) } S1 L (.own 6 id ver 0 f.slots.length)], 0⟩, ⟨0, 5, [encAc ⟨2, x.a, x.b, childI f.seed f.spawned, topV f n⟩ V], 0⟩, ⟨0, 5, [encAc ⟨2, x.a, x.b, childI f.seed f.spawned, topV f n⟩ V], 0⟩], S1, L, .own 6 id ver 0 f.slots.length, V, ?_, ?_, F2.l.app _, F2.z.app _, ?_, fun i hi _ => get_lt hi, fun i hi => ?_⟩
    · rw [body_eq Tryz.func68 rfl rfl]
      simp [argsσ, Vm.results, n1, n2, c1, v1, vc, yi', hh', hel, k1, stl, hG', hGl, hGs, hGg, hGs0, hGg0, hSl, hVl, hsub, sS, hn1, hc1, hC, hw, w5, w8, q1, q2, q3, logL, loud, isE, drawChk, nextF, popF, setSlot, -getElem?_pos]
    · have i2 : IsS G 2 ((f.stack.map encV).take (f.stack.length - n)) S1 := by
        refine iS.keep fun i hi => ?_
        rw [← hG, List.getElem?_set_ne]
        rintro rfl
        exact h.sz _ (aS _ hi) rfl
      have i3 := i2.app [⟨0, 16, [frC { nextF (popF (setSlot f x.b ⟨1, noK, o0⟩) n) with spawned := IntKind.i64.wrap (f.spawned + 1) } S1 L (.own 6 id ver 0 f.slots.length)], 0⟩, ⟨0, 3, [encInstr x], 0⟩, ⟨0, 16, [frC { nextF (popF (setSlot f x.b ⟨1, noK, o0⟩) n) with spawned := IntKind.i64.wrap (f.spawned + 1) } S1 L (.own 6 id ver 0 f.slots.length)], 0⟩, ⟨0, 5, [encAc ⟨2, x.a, x.b, childI f.seed f.spawned, topV f n⟩ V], 0⟩, ⟨0, 5, [encAc ⟨2, x.a, x.b, childI f.seed f.spawned, topV f n⟩ V], 0⟩]
      rw [← List.map_take] at i3
      exact i3
    · have i2 : IsS G 2 ((topV f n).map encV) V := by
        refine hV.keep fun i hi => ?_
        rw [← hG, List.getElem?_set_ne]
        rintro rfl
        exact hZV _ rfl hi
      exact i2.app _
    · left
      apply hP
      rcases hi with h1 | h1 | h1 | h1
      · exact .inl (aS i h1)
      · exact .inr (.inl h1)
      · exact .inr (.inr (.inl h1))
      · exact .inr (.inr (.inr h1))
end
end Go.Proofs.YtlpadffinfijgaaGreatW.Rg
