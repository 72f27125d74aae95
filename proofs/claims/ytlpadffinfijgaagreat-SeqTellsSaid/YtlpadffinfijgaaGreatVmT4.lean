/- The document's steps with a frame: copies, spawns, joins, what is laid. No conditions. -/
import Derived.Test.YtlpadffinfijgaaGreatVmT3
set_option linter.unusedVariables false
set_option linter.unusedSimpArgs false
namespace Go.Proofs.YtlpadffinfijgaaGreatW.Rg
open Go.Proofs.YtlpadffinfijgaaGreatW.Vm Go.Proofs.YtlpadffinfijgaaGreatW.Md
open Go Go.Proofs
theorem appE {z b : Nat} (H : List Ob) (xs : List D) (hl : xs.length * b ≤ 2 ^ 47) : ∃ d' t, apK b z H (.sl z [] true) [] xs = some (d', H ++ t) ∧ IsS (H ++ t) z xs d' ∧ (∀ i, At d' i → H.length ≤ i) ∧ (∀ i, At d' i → i < H.length + t.length) := by
  rw [apK_ok (by simpa using hl)]
  by_cases hx : xs = []
  · subst hx
    exact ⟨.sl z [] true, [], by rw [apN_nil]; simp, .inr (.inl ⟨rfl, rfl⟩), fun i hi => absurd hi (at_sl _ _ _ i), fun i hi => absurd hi (at_sl _ _ _ i)⟩
  · have hne : xs.length ≠ 0 := fun e => hx (List.length_eq_zero_iff.1 e)
    refine ⟨.own z H.length 0 0 xs.length, [⟨0, z, xs, 0⟩], by rw [apN_sl' hne]; simp [newOb], .inr (.inr ⟨H.length, 0, [], rfl, by simp⟩), fun i hi => ?_, fun i hi => ?_⟩ <;> (rw [at_own] at hi; subst hi; simp)
theorem copy_spec (f : Fr) (a b : Option (List Vl)) (z : Option (List Slt)) {H : List Ob} (ha : a.getD [] = f.stack) (hb : b.getD [] = f.locals) (hz : z.getD [] = f.slots)
    (h1 : f.stack.length ≤ 2 ^ 40) (h2 : f.locals.length ≤ 2 ^ 40) (h3 : f.slots.length ≤ 2 ^ 40) :
    ∃ S' L' Z' t, body Tryz.prog R 63 [frC f (encL 2 encV a) (encL 2 encV b) (encL 6 encSlt z)] H = some (frC f S' L' Z', H ++ t) ∧ Fv (H ++ t) f S' L' Z' ∧ (∀ i, Fp S' L' Z' .snil i → H.length ≤ i) := by
  obtain ⟨oa, hoa⟩ : ∃ x : Ob, x = ⟨0, 16, [frC f (encL 2 encV a) (encL 2 encV b) (encL 6 encSlt z)], 0⟩ := ⟨_, rfl⟩
  obtain ⟨ob, hob⟩ : ∃ x : Ob, x = ⟨0, 16, [zF], 0⟩ := ⟨_, rfl⟩
  obtain ⟨S', t1, e1, i1, g1, l1⟩ := appE (z := 2) (b := 16) (H ++ [oa, ob]) (f.stack.map encV) (by simp; omega)
  have n1 := i1.one
  have c1 := i1.cells
  obtain ⟨oc, hoc⟩ : ∃ x : Ob, x = ⟨0, 16, [frC f S' (encL 2 encV b) (encL 6 encSlt z)], 0⟩ := ⟨_, rfl⟩
  obtain ⟨L', t2, e2, i2, g2, l2⟩ := appE (z := 2) (b := 16) (H ++ oc :: ob :: t1) (f.locals.map encV) (by simp; omega)
  have n2 := i2.one
  have c2 := i2.cells
  obtain ⟨od, hod⟩ : ∃ x : Ob, x = ⟨0, 16, [frC f S' L' (encL 6 encSlt z)], 0⟩ := ⟨_, rfl⟩
  obtain ⟨Z', t3, e3, i3, g3, l3⟩ := appE (z := 6) (b := 48) (H ++ od :: ob :: (t1 ++ t2)) (f.slots.map encSlt) (by simp; omega)
  have n3 := i3.one
  have c3 := i3.cells
  simp only [List.append_assoc, List.cons_append, List.nil_append] at e1 e2 e3 i1 i2 i3
  simp only [List.length_append, List.length_cons, List.length_nil] at g1 g2 g3 l1 l2 l3
  refine ⟨S', L', Z', ⟨0, 16, [frC f S' L' Z'], 0⟩ :: ⟨0, 16, [frC f S' L' Z'], 0⟩ :: (t1 ++ (t2 ++ t3)), ?_, ⟨?_, ?_, ?_, ?_, ?_, ?_⟩, ?_⟩
  · subst hoa hob hoc hod
    rw [body_eq Tryz.func63 rfl rfl]
    simp [argsσ, Vm.results, ha, hb, hz, e1, e2, e3, n1, n2, n3, c1, c2, c3]
  · refine i1.keep fun i hi => ?_
    have := g1 i hi; have := l1 i hi
    obtain ⟨k, rfl⟩ : ∃ k, i = H.length + (k + 2) := ⟨i - H.length - 2, by omega⟩
    rw [get_app rfl, get_app rfl]
    simp only [List.getElem?_cons_succ]
    rw [List.getElem?_append_left (by omega)]
  · refine i2.keep fun i hi => ?_
    have := g2 i hi; have := l2 i hi
    obtain ⟨k, rfl⟩ : ∃ k, i = H.length + (k + 2) := ⟨i - H.length - 2, by omega⟩
    rw [get_app rfl, get_app rfl]
    simp only [List.getElem?_cons_succ]
    rw [← List.append_assoc, List.getElem?_append_left (by simp; omega)]
  · refine i3.keep fun i hi => ?_
    have := g3 i hi; have := l3 i hi
    obtain ⟨k, rfl⟩ : ∃ k, i = H.length + (k + 2) := ⟨i - H.length - 2, by omega⟩
    rw [get_app rfl, get_app rfl]
    simp only [List.getElem?_cons_succ]
  · intro i h1 h2; have := l1 i h1; have := g2 i h2; omega
  · intro i h1 h2; have := l1 i h1; have := g3 i h2; omega
  · intro i h1 h2; have := l2 i h1; have := g3 i h2; omega
  · rintro i (h1 | h1 | h1 | h1)
    · have := g1 i h1; omega
    · have := g2 i h1; omega
    · have := g3 i h1; omega
    · exact absurd h1 (at_snil i)
/-- what an instruction lays on -/
def laysX (f : Fr) (x : Instr) (vs : List Vl) : List Vl :=
  if x.op = 0 then [ofG x.a x.b]
  else if x.op = 1 then [(f.locals[x.a.toNat]?).getD v0]
  else if x.op = 3 then [addG ((vs[0]?).getD v0) ((vs[1]?).getD v0)]
  else if x.op = 4 then [subG ((vs[0]?).getD v0) ((vs[1]?).getD v0)]
  else if x.op = 5 then [mulG ((vs[0]?).getD v0) ((vs[1]?).getD v0)]
  else if x.op = 6 then [(divG ((vs[0]?).getD v0) ((vs[1]?).getD v0)).getD v0]
  else if x.op = 7 then [conjG ((vs[0]?).getD v0)]
  else if x.op = 8 then [(vs[0]?).getD v0, (vs[0]?).getD v0]
  else if x.op = 12 then [drawV f.seed f.draws]
  else []
section
variable {H : List Ob} {f : Fr} {S L Z V : D} {vs : List Vl} {P : Nat → Prop}
theorem lays_spec (h : Fv H f S L Z) (hV : IsS H 2 (vs.map encV) V) (x : Instr) (hx : imay x = true) (h1 : x.op = 1 → x.a < f.locals.length) (hvl : (vs.length : Int) = off6 x.op) :
    ∃ r t, body Tryz.prog R 72 [frC f S L Z, encInstr x, V] H = some (r, H ++ t) ∧ ∀ h, elsZ h 2 r = some ((laysX f x vs).map encV) := by
  have n1 := h.s.one; have n2 := h.l.one; have n3 := h.z.one
  have hi := imay_iff.1 hx
  have y0 : idxD 1 (D.int .i64 0) = some 0 := rfl
  have y2 : idxD 2 (D.int .i64 0) = some 0 := rfl
  have y3 : idxD 2 (D.int .i64 1) = some 1 := rfl
  have d7 := dr72_7; have d9 := dr72_9; have d11 := dr72_11; have d13 := dr72_13; have d18 := dr72_18
  simp [opsAt, opsIn, Tryz.f72] at d7 d9 d11 d13 d18
  have w7 := Wdraw d7; have w9 := Wdraw d9; have w11 := Wdraw d11; have w13 := Wdraw d13; have w18 := Wdraw d18
  clear d7 d9 d11 d13 d18
  obtain ⟨A0, hA0⟩ : ∃ A0 : Ob, A0 = ⟨0, 16, [frC f S L Z], 0⟩ := ⟨_, rfl⟩
  have two : off6 x.op = 2 → ∃ id ver rest u v, V = .own 2 id ver 0 2 ∧ vs = [u, v] ∧ id < H.length ∧ ∀ t, (H ++ t)[id]? = some ⟨ver, 2, encV u :: encV v :: rest, 0⟩ := by
    intro e
    have hl2 : vs.length = 2 := by omega
    obtain ⟨u, v, huv⟩ : ∃ u v, vs = [u, v] := by
      match vs, hl2 with
      | [a, b], _ => exact ⟨a, b, rfl⟩
    subst huv
    obtain ⟨id, ver, rest, rfl, hh, _, _⟩ := hV.ix (t := 24) un24 sz30 (i := 0) (by simp)
    have hid := (List.getElem?_eq_some_iff.1 hh).1
    exact ⟨id, ver, rest, u, v, rfl, rfl, hid, fun t => by rw [get_lt hid, hh]; rfl⟩
  have one : off6 x.op = 1 → ∃ id ver rest u, V = .own 2 id ver 0 1 ∧ vs = [u] ∧ id < H.length ∧ ∀ t, (H ++ t)[id]? = some ⟨ver, 2, encV u :: rest, 0⟩ := by
    intro e
    have hl2 : vs.length = 1 := by omega
    obtain ⟨u, huv⟩ : ∃ u, vs = [u] := by
      match vs, hl2 with
      | [a], _ => exact ⟨a, rfl⟩
    subst huv
    obtain ⟨id, ver, rest, rfl, hh, _, _⟩ := hV.ix (t := 24) un24 sz30 (i := 0) (by simp)
    have hid := (List.getElem?_eq_some_iff.1 hh).1
    exact ⟨id, ver, rest, u, rfl, rfl, hid, fun t => by rw [get_lt hid, hh]; rfl⟩
  unfold laysX
  rw [body_eq Tryz.func72 rfl rfl]
  by_cases o0 : x.op = 0
  · rw [if_pos o0]
    have k0 : decide (x.op = 0) = true := dt o0
    have hO := rOf_spec x.a x.b
    exact ⟨.sl 2 [encV (ofG x.a x.b)] false, [⟨0, 16, [frC f S L Z], 0⟩, ⟨0, 3, [encInstr x], 0⟩], by simp [argsσ, Vm.results, n1, n2, n3, k0, hO], fun h => by simp⟩
  rw [if_neg o0]
  have k0 : decide (x.op = 0) = false := df o0
  by_cases o1 : x.op = 1
  · rw [if_pos o1]
    have k1 : decide (x.op = 1) = true := dt o1
    have hl1 := h1 o1
    obtain ⟨n, hn⟩ : ∃ n : Nat, x.a = n := ⟨x.a.toNat, by have := imay_a hx; omega⟩
    have hnl : n < f.locals.length := by omega
    obtain ⟨id, ver, rest, rfl, hh, hel, _⟩ := h.l.ix (t := 24) un24 sz30 hnl
    have hid := (List.getElem?_eq_some_iff.1 hh).1
    have hh' : ∀ t, (H ++ t)[id]? = some ⟨ver, 2, f.locals.map encV ++ rest, 0⟩ := fun t => by rw [get_lt hid, hh]
    have yi := idxD_nat .i64 hnl
    have yi' : idxD f.locals.length (I x.a) = some n := by rw [hn]; exact yi
    have hv : (f.locals[x.a.toNat]?).getD v0 = f.locals[n] := by rw [hn]; simp [hnl]
    rw [hv]
    generalize f.locals[n] = u at *
    exact ⟨.sl 2 [encV u] false, [⟨0, 16, [frC f S (.own 2 id ver 0 f.locals.length) Z], 0⟩, ⟨0, 3, [encInstr x], 0⟩], by simp [argsσ, Vm.results, n1, n3, k0, k1, yi', hh', hel], fun h => by simp⟩
  rw [if_neg o1]
  have k1 : decide (x.op = 1) = false := df o1
  by_cases o3 : x.op = 3
  · rw [if_pos o3]
    have k3 : decide (x.op = 3) = true := dt o3
    obtain ⟨id, ver, rest, u, v, rfl, rfl, hid, hh⟩ := two (by rw [o3]; rfl)
    have hA := rAdd_spec u v
    simp only [List.getElem?_cons_zero, List.getElem?_cons_succ, Option.getD_some]
    exact ⟨.sl 2 [encV (addG u v)] false, [⟨0, 16, [frC f S L Z], 0⟩, ⟨0, 3, [encInstr x], 0⟩], by simp [argsσ, Vm.results, n1, n2, n3, k0, k1, k3, w7, y2, y3, hh, hA, logL, loud, isE, drawChk], fun h => by simp⟩
  rw [if_neg o3]
  have k3 : decide (x.op = 3) = false := df o3
  by_cases o4 : x.op = 4
  · rw [if_pos o4]
    have k4 : decide (x.op = 4) = true := dt o4
    obtain ⟨id, ver, rest, u, v, rfl, rfl, hid, hh⟩ := two (by rw [o4]; rfl)
    have hA := rSub_spec u v
    simp only [List.getElem?_cons_zero, List.getElem?_cons_succ, Option.getD_some]
    exact ⟨.sl 2 [encV (subG u v)] false, [⟨0, 16, [frC f S L Z], 0⟩, ⟨0, 3, [encInstr x], 0⟩], by simp [argsσ, Vm.results, n1, n2, n3, k0, k1, k3, k4, w9, y2, y3, hh, hA, logL, loud, isE, drawChk], fun h => by simp⟩
  rw [if_neg o4]
  have k4 : decide (x.op = 4) = false := df o4
  by_cases o5 : x.op = 5
  · rw [if_pos o5]
    have k5 : decide (x.op = 5) = true := dt o5
    obtain ⟨id, ver, rest, u, v, rfl, rfl, hid, hh⟩ := two (by rw [o5]; rfl)
    have hA := rMul_spec u v
    simp only [List.getElem?_cons_zero, List.getElem?_cons_succ, Option.getD_some]
    exact ⟨.sl 2 [encV (mulG u v)] false, [⟨0, 16, [frC f S L Z], 0⟩, ⟨0, 3, [encInstr x], 0⟩], by simp [argsσ, Vm.results, n1, n2, n3, k0, k1, k3, k4, k5, w11, y2, y3, hh, hA, logL, loud, isE, drawChk], fun h => by simp⟩
  rw [if_neg o5]
  have k5 : decide (x.op = 5) = false := df o5
  by_cases o6 : x.op = 6
  · rw [if_pos o6]
    have k6 : decide (x.op = 6) = true := dt o6
    obtain ⟨id, ver, rest, u, v, rfl, rfl, hid, hh⟩ := two (by rw [o6]; rfl)
    have hA := rDiv_spec u v
    simp only [List.getElem?_cons_zero, List.getElem?_cons_succ, Option.getD_some]
    cases hq : divG u v with
    | none =>
      rw [hq] at hA
      exact ⟨.sl 2 [encV v0] false, [⟨0, 16, [frC f S L Z], 0⟩, ⟨0, 3, [encInstr x], 0⟩, ⟨0, 2, [encV v0], 0⟩], by simp [argsσ, Vm.results, n1, n2, n3, k0, k1, k3, k4, k5, k6, w13, y2, y3, hh, hA, logL, loud, isE, drawChk, v0], fun h => by simp⟩
    | some q =>
      rw [hq] at hA
      exact ⟨.sl 2 [encV q] false, [⟨0, 16, [frC f S L Z], 0⟩, ⟨0, 3, [encInstr x], 0⟩, ⟨0, 2, [encV q], 0⟩], by simp [argsσ, Vm.results, n1, n2, n3, k0, k1, k3, k4, k5, k6, w13, y2, y3, hh, hA, logL, loud, isE, drawChk], fun h => by simp⟩
  rw [if_neg o6]
  have k6 : decide (x.op = 6) = false := df o6
  by_cases o7 : x.op = 7
  · rw [if_pos o7]
    have k7 : decide (x.op = 7) = true := dt o7
    obtain ⟨id, ver, rest, u, rfl, rfl, hid, hh⟩ := one (by rw [o7]; rfl)
    have hA := rConj_spec u
    simp only [List.getElem?_cons_zero, Option.getD_some]
    exact ⟨.sl 2 [encV (conjG u)] false, [⟨0, 16, [frC f S L Z], 0⟩, ⟨0, 3, [encInstr x], 0⟩], by simp [argsσ, Vm.results, n1, n2, n3, k0, k1, k3, k4, k5, k6, k7, y0, hh, hA], fun h => by simp⟩
  rw [if_neg o7]
  have k7 : decide (x.op = 7) = false := df o7
  by_cases o8 : x.op = 8
  · rw [if_pos o8]
    have k8 : decide (x.op = 8) = true := dt o8
    obtain ⟨id, ver, rest, u, rfl, rfl, hid, hh⟩ := one (by rw [o8]; rfl)
    simp only [List.getElem?_cons_zero, Option.getD_some]
    exact ⟨.sl 2 [encV u, encV u] false, [⟨0, 16, [frC f S L Z], 0⟩, ⟨0, 3, [encInstr x], 0⟩], by simp [argsσ, Vm.results, n1, n2, n3, k0, k1, k3, k4, k5, k6, k7, k8, w18, y0, hh, logL, loud, isE, drawChk], fun h => by simp⟩
  rw [if_neg o8]
  have k8 : decide (x.op = 8) = false := df o8
  by_cases o12 : x.op = 12
  · rw [if_pos o12]
    have k12 : decide (x.op = 12) = true := dt o12
    have hO := rDraw_spec f.seed f.draws
    generalize drawV f.seed f.draws = u at *
    exact ⟨.sl 2 [encV u] false, [⟨0, 16, [frC f S L Z], 0⟩, ⟨0, 3, [encInstr x], 0⟩], by simp [argsσ, Vm.results, n1, n2, n3, k0, k1, k3, k4, k5, k6, k7, k8, k12, hO], fun h => by simp⟩
  rw [if_neg o12]
  have k12 : decide (x.op = 12) = false := df o12
  exact ⟨.snil, [⟨0, 16, [frC f S L Z], 0⟩, ⟨0, 3, [encInstr x], 0⟩], by simp [argsσ, Vm.results, n1, n2, n3, k0, k1, k3, k4, k5, k6, k7, k8, k12], fun h => by simp⟩
end
end Go.Proofs.YtlpadffinfijgaaGreatW.Rg
