/- The document's steps with a frame: ends, copies, spawns, joins. No conditions. -/
import Derived.Test.YtlpadffinfijgaaGreatVmT2
set_option linter.unusedVariables false
set_option linter.unusedSimpArgs false
namespace Go.Proofs.YtlpadffinfijgaaGreatW.Rg
open Go.Proofs.YtlpadffinfijgaaGreatW.Vm Go.Proofs.YtlpadffinfijgaaGreatW.Md
open Go Go.Proofs
section
variable {H : List Ob} {z : Nat} {xs : List D} {d : D}
/-- the first elements of a slice of one's own -/
theorem IsS.takeD (h : IsS H z xs d) {t e : Nat} (hu : Tryz.prog.underlying t = some (.slice e)) (hs : szT Tryz.prog e = some z) (n : Nat) (hn : n ≤ xs.length) :
    ∃ d', (∀ h : List Ob, sliceD Tryz.prog h t d none (some (I n)) none = some (d', h)) ∧ IsS H z (xs.take n) d' ∧ (∀ i, At d' i → At d i) := by
  have hb : ∀ m k, m = xs.length → bndD m k (some (I (n : Int))) = some n := by
    intro m k hm; simp only [bndD]; rw [if_pos (by omega)]; simp
  have h0 : bndD 0 0 (some (D.int .i64 0)) = some 0 := rfl
  rcases h with ⟨rfl, rfl⟩ | ⟨rfl, rfl⟩ | ⟨id, ver, rest, rfl, hh⟩
  · have n0 : n = 0 := by simpa using hn
    subst n0
    refine ⟨.snil, fun h => ?_, .inl ⟨rfl, rfl⟩, fun i hi => hi⟩
    simp only [sliceD, hu, hs]
    rfl
  · have n0 : n = 0 := by simpa using hn
    subst n0
    refine ⟨.sl z [] true, fun h => ?_, .inr (.inl ⟨rfl, rfl⟩), fun i hi => hi⟩
    simp [sliceD, hu, hs, bndD]
  · refine ⟨.own z id ver 0 n, fun h => ?_, .inr (.inr ⟨id, ver, xs.drop n ++ rest, by simp; omega, ?_⟩), fun i hi => hi⟩
    · simp only [sliceD, hu, hs, show ∀ a b, bndD a b none = some b from fun _ _ => rfl, hb _ _ rfl]
      simp [hn]
    · rw [hh, ← List.append_assoc, List.take_append_drop]
/-- what is behind them -/
theorem IsS.dropD (h : IsS H z xs d) {t e : Nat} (hu : Tryz.prog.underlying t = some (.slice e)) (hs : szT Tryz.prog e = some z) (n : Nat) (hn : n ≤ xs.length) :
    ∃ d', (∀ h : List Ob, sliceD Tryz.prog h t d (some (I n)) none none = some (d', h)) ∧ (∀ t, elsZ (H ++ t) z d' = some (xs.drop n)) := by
  have hb : ∀ m k, m = xs.length → bndD m k (some (I (n : Int))) = some n := by
    intro m k hm; simp only [bndD]; rw [if_pos (by omega)]; simp
  rcases h with ⟨rfl, rfl⟩ | ⟨rfl, rfl⟩ | ⟨id, ver, rest, rfl, hh⟩
  · have n0 : n = 0 := by simpa using hn
    subst n0
    refine ⟨.snil, fun h => ?_, fun t => by simp⟩
    simp only [sliceD, hu, hs]
    rfl
  · have n0 : n = 0 := by simpa using hn
    subst n0
    refine ⟨.sl z [] true, fun h => ?_, fun t => by simp⟩
    simp [sliceD, hu, hs, bndD]
  · refine ⟨.own z id ver n (xs.length - n), fun h => ?_, fun t => ?_⟩
    · simp only [sliceD, hu, hs, show ∀ a b, bndD a b none = some b from fun _ _ => rfl, hb _ _ rfl]
      simp
    · have hid := (List.getElem?_eq_some_iff.1 hh).1
      rw [elsZ_own, elsOf_own, get_lt hid, hh, Option.bind_some, if_pos ⟨rfl, rfl, by simp; omega⟩]
      simp only
      rw [List.drop_append_of_le_length hn, List.take_append_of_le_length (by simp), List.take_of_length_le (by simp)]
/-- more elements -/
theorem IsS.pushD (h : IsS H z xs d) (b : Nat) (vs : List D) (hl : (xs.length + vs.length) * b ≤ 2 ^ 47) :
    ∃ d' H', apK b z H d xs vs = some (d', H') ∧ IsS H' z (xs ++ vs) d' ∧ (∀ i, At d' i → At d i ∨ (H.length ≤ i ∧ i < H'.length)) ∧ (∀ i, i < H.length → ¬ At d i → H'[i]? = H[i]?) ∧ H.length ≤ H'.length := by
  rw [apK_ok hl]
  by_cases h0 : vs = []
  · subst h0
    rw [apN_nil, List.append_nil]
    exact ⟨d, H, rfl, h, fun i hi => .inl hi, fun i _ _ => rfl, Nat.le_refl _⟩
  have hne : vs.length ≠ 0 := fun e => h0 (List.length_eq_zero_iff.1 e)
  rcases h with ⟨rfl, rfl⟩ | ⟨rfl, rfl⟩ | ⟨id, ver, rest, rfl, hh⟩
  · rw [apN_snil' hne]
    refine ⟨_, _, rfl, .inr (.inr ⟨H.length, 0, [], by simp, by simp [newOb]⟩), fun i hi => .inr ?_, fun i hi _ => ?_, by simp [newOb]⟩
    · rw [at_own] at hi; subst hi; simp [newOb]
    · unfold newOb; rw [get_lt hi]
  · rw [apN_sl' hne]
    refine ⟨_, _, rfl, .inr (.inr ⟨H.length, 0, [], by simp, by simp [newOb]⟩), fun i hi => .inr ?_, fun i hi _ => ?_, by simp [newOb]⟩
    · rw [at_own] at hi; subst hi; simp [newOb]
    · unfold newOb; rw [get_lt hi]
  · have hid := (List.getElem?_eq_some_iff.1 hh).1
    rw [apN_own' hne, hh, Option.bind_some, if_pos (by simp)]
    refine ⟨_, _, rfl, .inr (.inr ⟨id, ver + 1, [], by simp, ?_⟩), fun i hi => .inl hi, fun i _ hi => ?_, by simp⟩
    · rw [List.getElem?_set_self hid]; simp
    · rw [at_own] at hi
      rw [List.getElem?_set_ne hi]
end
/-- the objects of some slices -/
def Fp (S L Z V : D) (i : Nat) : Prop := At S i ∨ At L i ∨ At Z i ∨ At V i
/-- what a step of the document answers, on some objects -/
def Rv (P : Nat → Prop) (H : List Ob) (f : Fr) (c : Ac) (r : Option (D × List Ob)) : Prop :=
  ∃ H' S L Z A, r = some (.tup [frC f S L Z, encAc c A], H') ∧ IsS H' 2 (f.stack.map encV) S ∧ IsS H' 2 (f.locals.map encV) L ∧ IsS H' 6 (f.slots.map encSlt) Z ∧ IsS H' 2 (c.args.map encV) A ∧
    (∀ i, i < H.length → ¬ P i → H'[i]? = H[i]?) ∧ (∀ i, Fp S L Z A i → P i ∨ H.length ≤ i)
/-- a frame's slices -/
structure Fv (H : List Ob) (f : Fr) (S L Z : D) : Prop where
  s : IsS H 2 (f.stack.map encV) S
  l : IsS H 2 (f.locals.map encV) L
  z : IsS H 6 (f.slots.map encSlt) Z
  sl : ∀ i, At S i → ¬ At L i
  sz : ∀ i, At S i → ¬ At Z i
  lz : ∀ i, At L i → ¬ At Z i
section
variable {H : List Ob} {f : Fr} {S L Z V : D} {vs : List Vl} {P : Nat → Prop}
theorem Fv.app (h : Fv H f S L Z) (t : List Ob) : Fv (H ++ t) f S L Z := ⟨h.s.app t, h.l.app t, h.z.app t, h.sl, h.sz, h.lz⟩
theorem Fv.nlt (h : Fv H f S L Z) (hV : IsS H 2 (vs.map encV) V) (i : Nat) (hi : Fp S L Z V i) : i < H.length := by
  rcases hi with h1 | h1 | h1 | h1
  · exact h.s.lt h1
  · exact h.l.lt h1
  · exact h.z.lt h1
  · exact hV.lt h1
/-- what was answered is laid into two objects -/
theorem Rv.lay {f' : Fr} {c : Ac} {r : Option (D × List Ob)} {u : List Ob} {p q : Nat} {o1 o2 : Ob} (h : Rv P (H ++ u) f' c r) (hP : ∀ i, P i → i < H.length) (hp : H.length ≤ p ∧ p < (H ++ u).length) (hq : H.length ≤ q ∧ q < (H ++ u).length)
    (h1 : (H ++ u)[p]? = some o1) (h2 : (H ++ u)[q]? = some o2) : ∃ H' S' L' Z' A', r = some (.tup [frC f' S' L' Z', encAc c A'], H') ∧ H'[p]? = some o1 ∧ H'[q]? = some o2 ∧ S'.one = true ∧ L'.one = true ∧ Z'.one = true ∧ A'.one = true ∧
      ∀ x y : Ob, Rv P H f' c (some (.tup [frC f' S' L' Z', encAc c A'], (H'.set p x).set q y)) := by
  obtain ⟨H', S', L', Z', A', e, i1, i2, i3, i4, i5, i6⟩ := h
  have np : ¬ P p := fun h => by have := hP p h; omega
  have nq : ¬ P q := fun h => by have := hP q h; omega
  have mp : ∀ i, Fp S' L' Z' A' i → i ≠ p ∧ i ≠ q := fun i hi => by
    rcases i6 i hi with h7 | h7
    · have := hP i h7; omega
    · omega
  have k : ∀ {z xs d} (x y : Ob), IsS H' z xs d → (∀ i, At d i → Fp S' L' Z' A' i) → IsS ((H'.set p x).set q y) z xs d := fun x y hd hi =>
    (hd.set (fun h => (mp p (hi p h)).1 rfl) x).set (fun h => (mp q (hi q h)).2 rfl) y
  refine ⟨H', S', L', Z', A', e, by rw [i5 p hp.2 np, h1], by rw [i5 q hq.2 nq, h2], i1.one, i2.one, i3.one, i4.one, fun x y => ⟨_, S', L', Z', A', rfl, k x y i1 (fun i h => .inl h), k x y i2 (fun i h => .inr (.inl h)), k x y i3 (fun i h => .inr (.inr (.inl h))), k x y i4 (fun i h => .inr (.inr (.inr h))), fun i hi hn => ?_, fun i hi => ?_⟩⟩
  · rw [List.getElem?_set_ne (by omega), List.getElem?_set_ne (by omega), i5 i (by simp; omega) hn, get_lt hi]
  · rcases i6 i hi with h7 | h7
    · exact .inl h7
    · simp at h7; exact .inr (by omega)
theorem rend_spec (h : Fv H f S L Z) (o : Ou) (hP : ∀ i, Fp S L Z .snil i → P i) : Rv P H (endF f o).1 (endF f o).2 (body Tryz.prog R 70 [frC f S L Z, encO o] H) := by
  have n1 := h.s.one; have n2 := h.l.one; have n3 := h.z.one
  refine ⟨H ++ [⟨0, 16, [frC { f with state := 2, out := o } S L Z], 0⟩, ⟨0, 3, [encO o], 0⟩, ⟨0, 16, [frC { f with state := 2, out := o } S L Z], 0⟩, ⟨0, 5, [.agg [I 4, I 0, I 0, I 0, .snil]], 0⟩], S, L, Z, .snil, ?_, h.s.app _, h.l.app _, h.z.app _, .inl ⟨rfl, rfl⟩, fun i hi _ => get_lt hi, fun i hi => .inl (hP i hi)⟩
  rw [body_eq Tryz.func70 rfl rfl]
  simp [argsσ, Vm.results, n1, n2, n3, endF, acN]
theorem rtrap_spec (h : Fv H f S L Z) (k : Int) (hP : ∀ i, Fp S L Z .snil i → P i) (hP2 : ∀ i, P i → i < H.length) : Rv P H (trapF f k).1 (trapF f k).2 (body Tryz.prog R 65 [frC f S L Z, I k] H) := by
  have n1 := h.s.one; have n2 := h.l.one; have n3 := h.z.one
  obtain ⟨H', S', L', Z', A', e, e1, e2, m1, m2, m3, m4, fin⟩ := (rend_spec (P := P) (h.app [⟨0, 16, [frC f S L Z], 0⟩, ⟨0, 16, [zF], 0⟩, ⟨0, 5, [zA], 0⟩]) ⟨k, v0⟩ hP).lay (p := H.length + 1) (q := H.length + 2) (o1 := ⟨0, 16, [zF], 0⟩) (o2 := ⟨0, 5, [zA], 0⟩) hP2 (by simp) (by simp) (by simp) (by simp)
  have hl1 := (List.getElem?_eq_some_iff.1 e1).1
  have hl2 := (List.getElem?_eq_some_iff.1 e2).1
  have e2' : ∀ o : Ob, (H'.set (H.length + 1) o)[H.length + 2]? = some ⟨0, 5, [zA], 0⟩ := fun o => by rw [List.getElem?_set_ne (by omega), e2]
  have hg : body Tryz.prog R 65 [frC f S L Z, I k] H = some (.tup [frC (endF f ⟨k, v0⟩).1 S' L' Z', encAc (endF f ⟨k, v0⟩).2 A'], (H'.set (H.length + 1) ⟨0, 16, [frC (endF f ⟨k, v0⟩).1 S' L' Z'], 0⟩).set (H.length + 2) ⟨0, 5, [encAc (endF f ⟨k, v0⟩).2 A'], 0⟩) := by
    have eE : body Tryz.prog R 70 [frC f S L Z, .agg [I k, I 0, I 0]] (H ++ [⟨0, 16, [frC f S L Z], 0⟩, ⟨0, 16, [zF], 0⟩, ⟨0, 5, [zA], 0⟩]) = some (.tup [frC (endF f ⟨k, v0⟩).1 S' L' Z', encAc (endF f ⟨k, v0⟩).2 A'], H') := e
    generalize (endF f ⟨k, v0⟩).1 = g at *
    generalize (endF f ⟨k, v0⟩).2 = c at *
    rw [body_eq Tryz.func65 rfl rfl]
    simp [argsσ, Vm.results, n1, n2, n3, eE, e1, e2, e2', m1, m2, m3, m4, hl1, hl2, gs0 hl1, gs0 hl2, -getElem?_pos]
  rw [hg]
  exact fin _ _
end
end Go.Proofs.YtlpadffinfijgaaGreatW.Rg
