/- The document's steps with a frame: joins. No conditions. -/
import Derived.Test.YtlpadffinfijgaaGreatVmT5
set_option linter.unusedVariables false
set_option linter.unusedSimpArgs false
namespace Go.Proofs.YtlpadffinfijgaaGreatW.Rg
open Go.Proofs.YtlpadffinfijgaaGreatW.Vm Go.Proofs.YtlpadffinfijgaaGreatW.Md
open Go Go.Proofs
section
variable {H : List Ob} {f : Fr} {S L Z V : D} {vs : List Vl} {P : Nat → Prop}
theorem rjoin_spec (h : Fv H f S L Z) (x : Instr) (hx : imay x = true) (hb : x.a < f.slots.length) (hl : f.stack.length ≤ 2 ^ 40) (hpc : 0 ≤ f.pc ∧ f.pc < 2 ^ 62)
    (hP : ∀ i, Fp S L Z .snil i → P i) (hP2 : ∀ i, P i → i < H.length) : Rv P H (joinF f x).1 (joinF f x).2 (body Tryz.prog R 69 [frC f S L Z, encInstr x] H) := by
  obtain ⟨m, hm⟩ : ∃ m : Nat, x.a = m := ⟨x.a.toNat, by have := imay_a hx; omega⟩
  have hml : m < f.slots.length := by omega
  obtain ⟨id, ver, rest, rfl, hh, hel, hix⟩ := h.z.ix (t := 41) un41 sz82 hml
  have hid := (List.getElem?_eq_some_iff.1 hh).1
  have n1 := h.s.one; have n2 := h.l.one
  have c1 := h.s.cells
  have hh' : ∀ t, (H ++ t)[id]? = some ⟨ver, 6, f.slots.map encSlt ++ rest, 0⟩ := fun t => by rw [get_lt hid, hh]
  have yi := idxD_nat .i64 hml
  have yi' : idxD f.slots.length (I x.a) = some m := by rw [hm]; exact yi
  have hsl := slotAt_get hml x.a hm
  unfold joinF
  rw [hsl]
  generalize f.slots[m] = s at *
  cases k1 : decide (s.state = 1)
  case true =>
    rw [if_pos (of_decide_eq_true k1)]
    refine ⟨H ++ [⟨0, 16, [frC { f with state := 1, wait := x.a } S L (.own 6 id ver 0 f.slots.length)], 0⟩, ⟨0, 3, [encInstr x], 0⟩, ⟨0, 16, [frC { f with state := 1, wait := x.a } S L (.own 6 id ver 0 f.slots.length)], 0⟩, ⟨0, 5, [encAc (acN 3) .snil], 0⟩, ⟨0, 6, [encSlt s], 0⟩], S, L, .own 6 id ver 0 f.slots.length, .snil, ?_, h.s.app _, h.l.app _, h.z.app _, .inl ⟨rfl, rfl⟩, fun i hi _ => get_lt hi, fun i hi => .inl (hP i hi)⟩
    rw [body_eq Tryz.func69 rfl rfl]
    simp [argsσ, Vm.results, n1, n2, yi', hh', hel, k1, acN, -getElem?_pos]
  have m1 := of_decide_eq_false k1
  rw [if_neg m1]
  cases k2 : decide (s.state = 2)
  case false =>
    rw [if_pos (of_decide_eq_false k2)]
    obtain ⟨H', S', L', Z', A', e, e1, e2, p1, p2, p3, p4, fin⟩ := (rtrap_spec (P := P) (h.app [⟨0, 16, [frC f S L (.own 6 id ver 0 f.slots.length)], 0⟩, ⟨0, 3, [encInstr x], 0⟩, ⟨0, 16, [zF], 0⟩, ⟨0, 5, [zA], 0⟩, ⟨0, 6, [encSlt s], 0⟩]) 2 hP (fun i hi => by have := hP2 i hi; simp; omega)).lay (p := H.length + 2) (q := H.length + 3) (o1 := ⟨0, 16, [zF], 0⟩) (o2 := ⟨0, 5, [zA], 0⟩) hP2 (by simp) (by simp) (by simp) (by simp)
    have hl1 := (List.getElem?_eq_some_iff.1 e1).1
    have hl2 := (List.getElem?_eq_some_iff.1 e2).1
    have e2' : ∀ o : Ob, (H'.set (H.length + 2) o)[H.length + 3]? = some ⟨0, 5, [zA], 0⟩ := fun o => by rw [List.getElem?_set_ne (by omega), e2]
    generalize (trapF f 2).1 = g at *
    generalize (trapF f 2).2 = c at *
    have hg : body Tryz.prog R 69 [frC f S L (.own 6 id ver 0 f.slots.length), encInstr x] H = some (.tup [frC g S' L' Z', encAc c A'], (H'.set (H.length + 2) ⟨0, 16, [frC g S' L' Z'], 0⟩).set (H.length + 3) ⟨0, 5, [encAc c A'], 0⟩) := by
      rw [body_eq Tryz.func69 rfl rfl]
      simp [argsσ, Vm.results, n1, n2, yi', hh', hel, k1, k2, e, e1, e2, e2', p1, p2, p3, p4, hl1, hl2, gs0 hl1, gs0 hl2, -getElem?_pos]
    rw [hg]
    exact fin _ _
  have m2 := of_decide_eq_true k2
  rw [if_neg (by simpa using m2)]
  have F2 := h.setZ hh m hml s0 x.a (by omega)
  have stl : ∀ t o, (H ++ t).set id o = H.set id o ++ t := fun t o => set_lt hid o
  have hP2' : ∀ o : Ob, ∀ i, P i → i < (H.set id o).length := fun o i hi => by have := hP2 i hi; simpa using this
  refine Rv.base (id := id) (o := ⟨ver, 6, (f.slots.map encSlt ++ rest).set m (encSlt s0), 0⟩) ?_ (hP id (.inr (.inr (.inl rfl))))
  generalize hG : H.set id ⟨ver, 6, (f.slots.map encSlt ++ rest).set m (encSlt s0), 0⟩ = G at *
  have hG' : H.set id ⟨ver, 6, (f.slots.map encSlt ++ rest).set m (.agg [I 0, I 0, I 0, I 0, I 0, I 0]), 0⟩ = G := hG
  have hGl : G.length = H.length := by rw [← hG]; simp
  have hGs : ∀ k o t, (G ++ t).set (H.length + k) o = G ++ t.set k o := fun k o t => set_app hGl k o
  have hGg : ∀ k (t : List Ob), (G ++ t)[H.length + k]? = t[k]? := fun k t => get_app hGl k
  have hGs0 : ∀ o t, (G ++ t).set H.length o = G ++ t.set 0 o := fun o t => set_app0 hGl o
  have hGg0 : ∀ (t : List Ob), (G ++ t)[H.length]? = t[0]? := fun t => get_app0 hGl
  have hP3 : ∀ i, P i → i < G.length := fun i hi => by rw [hGl]; exact hP2 i hi
  cases k3 : decide (s.out.trap = 0)
  case false =>
    rw [if_pos (of_decide_eq_false k3)]
    obtain ⟨H', S', L', Z', A', e, e1, e2, p1, p2, p3, p4, fin⟩ := (rtrap_spec (P := P) (F2.app [⟨0, 16, [frC f S L (.own 6 id ver 0 f.slots.length)], 0⟩, ⟨0, 3, [encInstr x], 0⟩, ⟨0, 16, [zF], 0⟩, ⟨0, 5, [zA], 0⟩, ⟨0, 6, [encSlt s], 0⟩]) s.out.trap hP (fun i hi => by have := hP3 i hi; simp; omega)).lay (p := G.length + 2) (q := G.length + 3) (o1 := ⟨0, 16, [zF], 0⟩) (o2 := ⟨0, 5, [zA], 0⟩) hP3 (by simp) (by simp) (by simp) (by simp)
    have hl1 := (List.getElem?_eq_some_iff.1 e1).1
    have hl2 := (List.getElem?_eq_some_iff.1 e2).1
    have e2' : ∀ o : Ob, (H'.set (G.length + 2) o)[G.length + 3]? = some ⟨0, 5, [zA], 0⟩ := fun o => by rw [List.getElem?_set_ne (by omega), e2]
    generalize (trapF (setSlot f x.a s0) s.out.trap).1 = g at *
    generalize (trapF (setSlot f x.a s0) s.out.trap).2 = c at *
    have hg : body Tryz.prog R 69 [frC f S L (.own 6 id ver 0 f.slots.length), encInstr x] H = some (.tup [frC g S' L' Z', encAc c A'], (H'.set (G.length + 2) ⟨0, 16, [frC g S' L' Z'], 0⟩).set (G.length + 3) ⟨0, 5, [encAc c A'], 0⟩) := by
      have ee : body Tryz.prog R 65 [frC f S L (.own 6 id ver 0 f.slots.length), I s.out.trap] (G ++ [⟨0, 16, [frC f S L (.own 6 id ver 0 f.slots.length)], 0⟩, ⟨0, 3, [encInstr x], 0⟩, ⟨0, 16, [zF], 0⟩, ⟨0, 5, [zA], 0⟩, ⟨0, 6, [encSlt s], 0⟩]) = some (.tup [frC g S' L' Z', encAc c A'], H') := e
      rw [hGl] at e1 e2 e2' hl1 hl2 ⊢
      rw [body_eq Tryz.func69 rfl rfl]
      simp [argsσ, Vm.results, n1, n2, yi', hh', hel, k1, k2, k3, stl, hG', hGg, hGg0, ee, e1, e2, e2', p1, p2, p3, p4, hl1, hl2, gs0 hl1, gs0 hl2, -getElem?_pos]
    rw [hg]
    exact fin _ _
  rw [if_neg (by simpa using of_decide_eq_true k3)]
  have hw : IntKind.i64.wrap (f.pc + 1) = f.pc + 1 := wr (by omega) (by omega)
  have F3 := F2.app [⟨0, 16, [frC f S L (.own 6 id ver 0 f.slots.length)], 0⟩, ⟨0, 3, [encInstr x], 0⟩, ⟨0, 16, [zF], 0⟩, ⟨0, 5, [zA], 0⟩, ⟨0, 6, [encSlt s], 0⟩]
  obtain ⟨S', H', eA, iA, aA, pA, lA⟩ := F3.s.pushD 16 [encV s.out.v] (by simp [setSlot]; omega)
  have es := F3.s.els
  have nA := iA.one; have cA := iA.cells
  have nS : ∀ i, H.length ≤ i → ¬ At S i := fun i h1 h2 => by have := h.s.lt h2; omega
  simp only [List.length_append, List.length_cons, List.length_nil, hGl] at pA lA aA
  have g0 : H'[H.length]? = some ⟨0, 16, [frC f S L (.own 6 id ver 0 f.slots.length)], 0⟩ := by rw [pA _ (by omega) (nS _ (by omega)), hGg0]; rfl
  have g2 : H'[H.length + 2]? = some ⟨0, 16, [zF], 0⟩ := by rw [pA _ (by omega) (nS _ (by omega)), hGg]; rfl
  have g3 : H'[H.length + 3]? = some ⟨0, 5, [zA], 0⟩ := by rw [pA _ (by omega) (nS _ (by omega)), hGg]; rfl
  have l0 : H.length < H'.length := by omega
  have l2 : H.length + 2 < H'.length := by omega
  have l3 : H.length + 3 < H'.length := by omega
  have x2 : ∀ o : Ob, (H'.set H.length o)[H.length + 2]? = some ⟨0, 16, [zF], 0⟩ := fun o => by rw [List.getElem?_set_ne (by omega), g2]
  have x3 : ∀ o o' : Ob, ((H'.set H.length o).set (H.length + 2) o')[H.length + 3]? = some ⟨0, 5, [zA], 0⟩ := fun o o' => by rw [List.getElem?_set_ne (by omega), List.getElem?_set_ne (by omega), g3]
  have x4 : ∀ o o' o'' : Ob, (((H'.set H.length o).set (H.length + 2) o').set (H.length + 3) o'')[H.length + 2]? = some o' := fun o o' o'' => by
    rw [List.getElem?_set_ne (by omega), List.getElem?_set_self (by simpa using l2)]
  have x5 : ∀ o o' o'' : Ob, (((H'.set H.length o).set (H.length + 2) o').set (H.length + 3) o'')[H.length + 3]? = some o'' := fun o o' o'' => List.getElem?_set_self (by simpa using l3)
  obtain ⟨g, hg⟩ : ∃ g, g = nextF (pushF (setSlot f x.a s0) [s.out.v]) := ⟨_, rfl⟩
  have kp : ∀ {z xs d}, IsS H' z xs d → (∀ i, H.length ≤ i → i < H.length + 5 → ¬ At d i) → ∀ o o' o'' : Ob, IsS (((H'.set H.length o).set (H.length + 2) o').set (H.length + 3) o'') z xs d := fun hd hn o o' o'' =>
    ((hd.set (hn _ (by omega) (by omega)) o).set (hn _ (by omega) (by omega)) o').set (hn _ (by omega) (by omega)) o''
  have kL : ∀ {z xs d}, IsS G z xs d → (∀ i, At S i → ¬ At d i) → IsS H' z xs d := fun hd hn => hd.keep fun i hi => by
    have hi2 := hd.lt hi
    rw [hGl] at hi2
    rw [pA i (by omega) (fun h => hn i h hi), get_lt (by omega)]
  have nl : ∀ {z xs d}, IsS G z xs d → ∀ i, H.length ≤ i → i < H.length + 5 → ¬ At d i := fun hd i h1 _ h3 => by have := hd.lt h3; omega
  have nA2 : ∀ i, H.length ≤ i → i < H.length + 5 → ¬ At S' i := fun i h1 h2 h3 => by
    rcases aA i h3 with h4 | h4
    · exact nS i h1 h4
    · omega
  rw [← hg]
  refine ⟨((H'.set H.length ⟨0, 16, [frC g S' L (.own 6 id ver 0 f.slots.length)], 0⟩).set (H.length + 2) ⟨0, 16, [frC g S' L (.own 6 id ver 0 f.slots.length)], 0⟩).set (H.length + 3) ⟨0, 5, [encAc (acN 1) .snil], 0⟩, S', L, .own 6 id ver 0 f.slots.length, .snil, ?_, ?_, ?_, ?_, .inl ⟨rfl, rfl⟩, fun i hi hn => ?_, fun i hi => ?_⟩
  · have eA' : apK 16 2 (G ++ [⟨0, 16, [frC f S L (.own 6 id ver 0 f.slots.length)], 0⟩, ⟨0, 3, [encInstr x], 0⟩, ⟨0, 16, [zF], 0⟩, ⟨0, 5, [zA], 0⟩, ⟨0, 6, [encSlt s], 0⟩]) S (f.stack.map encV) [.agg [I s.out.v.re, I s.out.v.im]] = some (S', H') := eA
    have es' : elsZ (G ++ [⟨0, 16, [frC f S L (.own 6 id ver 0 f.slots.length)], 0⟩, ⟨0, 3, [encInstr x], 0⟩, ⟨0, 16, [zF], 0⟩, ⟨0, 5, [zA], 0⟩, ⟨0, 6, [encSlt s], 0⟩]) 2 S = some (f.stack.map encV) := es
    rw [hg]
    rw [body_eq Tryz.func69 rfl rfl]
    simp [argsσ, Vm.results, n1, n2, yi', hh', hel, k1, k2, k3, stl, hG', hGg, hGg0, es', eA', g0, l0, l2, l3, gs0 l0, x2, x3, x4, x5, nA, cA, hw, acN, nextF, pushF, setSlot, -getElem?_pos]
  · have hs : g.stack.map encV = f.stack.map encV ++ [encV s.out.v] := by rw [hg]; simp [nextF, pushF, setSlot]
    rw [hs]
    exact kp iA nA2 _ _ _
  · rw [hg]
    exact kp (kL F2.l h.sl) (nl F2.l) _ _ _
  · rw [hg]
    exact kp (kL F2.z h.sz) (nl F2.z) _ _ _
  · rw [List.getElem?_set_ne (by omega), List.getElem?_set_ne (by omega), List.getElem?_set_ne (by omega)]
    rw [hGl] at hi
    rw [pA i (by omega) (fun h => hn (hP i (.inl h))), get_lt (by omega)]
  · rcases hi with h1 | h1 | h1 | h1
    · rcases aA i h1 with h4 | h4
      · exact .inl (hP i (.inl h4))
      · exact .inr (by omega)
    · exact .inl (hP i (.inr (.inl h1)))
    · exact .inl (hP i (.inr (.inr (.inl h1))))
    · exact absurd h1 (at_snil i)
end
end Go.Proofs.YtlpadffinfijgaaGreatW.Rg
