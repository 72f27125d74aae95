/- What is done with pens, told of pens in any form. No conditions. -/
import Derived.Test.YtopgmnjijioheaaVmP9
import Derived.Test.YtopgmnjijioheaaVmP12
import Derived.Test.YtopgmnjijioheaaVmPD
import Derived.Test.YtopgmnjijioheaaVmFx12
set_option linter.unusedVariables false
set_option linter.unusedSimpArgs false
namespace Go.Proofs.YtopgmnjijioheaaW.Rg
open Go.Proofs.YtopgmnjijioheaaW.Vm Go.Proofs.YtopgmnjijioheaaW.Md
open Go Go.Proofs
/-- a pen's lists in some form -/
def Rp (cs : Option (List Ce)) (fr : Option (List Int)) (p : Pn) : Prop := cs.getD [] = p.cells ∧ fr.getD [] = p.free
/-- a pen that is not too long -/
structure Bp (p : Pn) : Prop where
  c : p.cells.length ≤ 2 ^ 30
  f : p.free.length ≤ 2 ^ 30
  x : ∀ c ∈ p.cells, okX c.x
@[reducible] def encP (cs : Option (List Ce)) (fr : Option (List Int)) (p : Pn) : D := pnC (encL 18 encC cs) (encL 1 I fr) p.most
theorem okC_of {c : Ce} (h : okX c.x) : okC c := ⟨by have := h.1; omega, by have := h.2.1; omega, by have := h.2.2; omega⟩
theorem okX0 : okX fx0 := ⟨by decide, by decide, by decide⟩
section
variable {cs : Option (List Ce)} {fr : Option (List Int)} {p : Pn} (h : Rp cs fr p) (b : Bp p)
include h b
theorem may_P : fnc Try.prog cfg R 27 [encP cs fr p] = some (.bool (mayPn p)) := by
  have := pmay_spec cs fr p.most (by rw [h.1]; exact b.c) (by rw [h.2]; exact b.f)
  rw [h.1, h.2] at this; exact this
theorem rmay_P : fnc Try.prog cfg R 28 [encP cs fr p] = some (.bool (mayPn p)) := by
  have := rmay_spec cs fr p.most (by rw [h.1]; exact b.c) (by rw [h.2]; exact b.f)
  rw [h.1, h.2] at this; exact this
theorem get_P (r : Rf) : fnc Try.prog cfg R 18 [encP cs fr p, encRf r] = some (.tup [encX ((getPn p r).getD fx0), .bool (getPn p r).isSome]) := by
  have := get_spec cs fr p.most r (by rw [h.1]; exact b.c) (by rw [h.2]; exact b.f)
  rw [h.1, h.2] at this; exact this
theorem rget_P (r : Rf) : fnc Try.prog cfg R 19 [encP cs fr p, encRf r] = some (.tup [encX ((getPn p r).getD fx0), .bool (getPn p r).isSome]) := by
  have := rget_spec cs fr p.most r (by rw [h.1]; exact b.c) (by rw [h.2]; exact b.f)
  rw [h.1, h.2] at this; exact this
theorem lay_P (x : Fx) : ∃ c f, fnc Try.prog cfg R 12 [encP cs fr p, encX x] = some (.tup [encP c f (layPn p x).1, encRf (layPn p x).2.1, I (layPn p x).2.2]) ∧ Rp c f (layPn p x).1 := by
  have := play_spec cs fr p.most x (by rw [h.1]; exact b.c) (by rw [h.2]; exact b.f)
  rw [h.1, h.2] at this
  obtain ⟨d, e, c, f, rfl, h1, h2⟩ := this
  exact ⟨c, f, e, h1, h2⟩
theorem rlay_P (x : Fx) : ∃ c f, fnc Try.prog cfg R 13 [encP cs fr p, encX x] = some (.tup [encP c f (layPn p x).1, encRf (layPn p x).2.1, I (layPn p x).2.2]) ∧ Rp c f (layPn p x).1 := by
  have := rlay_spec cs fr p.most x (by rw [h.1]; exact b.c) (by rw [h.2]; exact b.f)
  rw [h.1, h.2] at this
  obtain ⟨d, e, c, f, rfl, h1, h2⟩ := this
  exact ⟨c, f, e, h1, h2⟩
theorem set_P (r : Rf) (x : Fx) : ∃ c f, fnc Try.prog cfg R 14 [encP cs fr p, encRf r, encX x] = some (.tup [encP c f (setPn p r x).1, I (setPn p r x).2]) ∧ Rp c f (setPn p r x).1 := by
  have := pset_spec cs fr p.most r x (by rw [h.1]; exact b.c) (by rw [h.2]; exact b.f)
  rw [h.1, h.2] at this
  obtain ⟨d, e, c, f, rfl, h1, h2⟩ := this
  exact ⟨c, f, e, h1, h2⟩
theorem rset_P (r : Rf) (x : Fx) : ∃ c f, fnc Try.prog cfg R 15 [encP cs fr p, encRf r, encX x] = some (.tup [encP c f (setPn p r x).1, I (setPn p r x).2]) ∧ Rp c f (setPn p r x).1 := by
  have := rset_spec cs fr p.most r x (by rw [h.1]; exact b.c) (by rw [h.2]; exact b.f)
  rw [h.1, h.2] at this
  obtain ⟨d, e, c, f, rfl, h1, h2⟩ := this
  exact ⟨c, f, e, h1, h2⟩
theorem drop_P (r : Rf) : ∃ c f, fnc Try.prog cfg R 16 [encP cs fr p, encRf r] = some (.tup [encP c f (dropPn p r).1, I (dropPn p r).2]) ∧ Rp c f (dropPn p r).1 := by
  have := pdrop_spec cs fr p.most r (by rw [h.1]; exact b.c) (by rw [h.2]; exact b.f)
  rw [h.1, h.2] at this
  obtain ⟨d, e, c, f, rfl, h1, h2⟩ := this
  exact ⟨c, f, e, h1, h2⟩
theorem rdrop_P (r : Rf) : ∃ c f, fnc Try.prog cfg R 17 [encP cs fr p, encRf r] = some (.tup [encP c f (dropPn p r).1, I (dropPn p r).2]) ∧ Rp c f (dropPn p r).1 := by
  have := rdrop_spec cs fr p.most r (by rw [h.1]; exact b.c) (by rw [h.2]; exact b.f)
  rw [h.1, h.2] at this
  obtain ⟨d, e, c, f, rfl, h1, h2⟩ := this
  exact ⟨c, f, e, h1, h2⟩
theorem refs_P : ∃ o : Option (List Rf), fnc Try.prog cfg R 25 [encP cs fr p] = some (encL 2 encRf o) ∧ o.getD [] = refsPn p := by
  have := refsP_spec cs fr p.most (by rw [h.1]; exact b.c) (by rw [h.2]; exact b.f)
  rw [h.1, h.2] at this; exact this
theorem rrefs_P : ∃ o : Option (List Rf), fnc Try.prog cfg R 26 [encP cs fr p] = some (encL 2 encRf o) ∧ o.getD [] = refsPn p := by
  have := rrefs_spec cs fr p.most (by rw [h.1]; exact b.c) (by rw [h.2]; exact b.f)
  rw [h.1, h.2] at this; exact this
theorem same_P {c2 : Option (List Ce)} {f2 : Option (List Int)} {q : Pn} (h2 : Rp c2 f2 q) : fnc Try.prog cfg R 29 [encP cs fr p, encP c2 f2 q] = some (.bool (samePn p q)) := by
  have := psame_spec cs c2 fr f2 p.most q.most (by rw [h.1]; have := b.c; omega) (by rw [h.2]; have := b.f; omega) (by rw [h.1]; exact fun c hc => okC_of (b.x c hc))
  rw [h.1, h.2, h2.1, h2.2] at this; exact this
theorem rsame_P {c2 : Option (List Ce)} {f2 : Option (List Int)} {q : Pn} (h2 : Rp c2 f2 q) : fnc Try.prog cfg R 22 [encP cs fr p, encP c2 f2 q] = some (.bool (samePn p q)) := by
  have := rpsame_spec cs c2 fr f2 p.most q.most (by rw [h.1]; have := b.c; omega) (by rw [h.2]; have := b.f; omega) (by rw [h.1]; exact fun c hc => okC_of (b.x c hc))
  rw [h.1, h.2, h2.1, h2.2] at this; exact this
end
theorem small_P {cs : Option (List Ce)} {fr : Option (List Int)} {p : Pn} (h : Rp cs fr p) (n : Int) (b : p.cells.length < 2 ^ 62) : fnc Try.prog cfg R 9 [encP cs fr p, I n] = some (.bool (smallPn p n)) := by
  have := smallPn_spec cs fr p.most n (by rw [h.1]; exact b)
  rw [h.1, h.2] at this; exact this
theorem xsame_P {x y : Fx} (h : okX x) : fnc Try.prog cfg R 23 [encX x, encX y] = some (.bool (decide (x.f = y.f))) := rxsame_spec x y ⟨by have := h.1; omega, by have := h.2.1; omega, by have := h.2.2; omega⟩
theorem samePn_self (p : Pn) : samePn p p = true := by unfold samePn; simp
/-! what is long -/
theorem isortZ_len (l : List Int) : (isortZ l).length = l.length := (isortZ_perm l).length_eq
theorem freeOf_len : ∀ (l : List Ce) (i : Nat), (freeOf i l).length ≤ l.length
  | [], i => by simp [freeOf]
  | c :: l, i => by
    have := freeOf_len l (i + 1)
    unfold freeOf
    split <;> simp <;> omega
theorem may_flen {p : Pn} (h : mayPn p = true) : p.free.length ≤ p.cells.length := by
  unfold mayPn at h
  simp only [Bool.and_eq_true, decide_eq_true_eq] at h
  have e := congrArg List.length h.2.2
  rw [isortZ_len] at e
  have := freeOf_len p.cells 0
  omega
theorem may_b {p : Pn} (h : mayPn p = true) (hx : ∀ c ∈ p.cells, okX c.x) : Bp p := by
  have h1 := may_len h; have h2 := may_flen h
  exact ⟨by omega, by omega, hx⟩
theorem okset {l : List Ce} {n : Nat} {c : Ce} (h : ∀ c ∈ l, okX c.x) (hc : okX c.x) : ∀ d ∈ l.set n c, okX d.x := fun d hd => by
  rcases List.mem_or_eq_of_mem_set hd with h1 | rfl
  · exact h d h1
  · exact hc
theorem lay_b {p : Pn} (b : Bp p) {x : Fx} (hx : okX x) : Bp (layPn p x).1 := by
  unfold layPn
  by_cases k1 : mayPn p = false
  · rw [if_pos k1]; exact b
  rw [if_neg k1]
  have km : mayPn p = true := by simpa using k1
  have h1 := may_len km; have h2 := may_flen km
  by_cases k2 : p.free = []
  · rw [if_pos k2]
    by_cases k3 : (p.cells.length : Int) = p.most
    · rw [if_pos k3]; exact b
    · rw [if_neg k3]
      refine ⟨by simp; omega, by simp, fun c hc => ?_⟩
      rcases List.mem_append.1 hc with h3 | h3
      · exact b.x c h3
      · rw [List.mem_singleton.1 h3]; exact hx
  · rw [if_neg k2]
    exact ⟨by simp; omega, by simp; omega, okset b.x hx⟩
theorem set_b {p : Pn} (b : Bp p) (r : Rf) {x : Fx} (hx : okX x) : Bp (setPn p r x).1 := by
  unfold setPn
  by_cases k1 : mayPn p = false
  · rw [if_pos k1]; exact b
  rw [if_neg k1]
  by_cases k2 : heldPn p r = false
  · rw [if_pos k2]; exact b
  rw [if_neg k2]
  exact ⟨by simpa using b.c, b.f, okset b.x hx⟩
theorem drop_b {p : Pn} (b : Bp p) (r : Rf) : Bp (dropPn p r).1 := by
  unfold dropPn
  by_cases k1 : mayPn p = false
  · rw [if_pos k1]; exact b
  rw [if_neg k1]
  have km : mayPn p = true := by simpa using k1
  have h1 := may_len km; have h2 := may_flen km
  by_cases k2 : heldPn p r = false
  · rw [if_pos k2]; exact b
  rw [if_neg k2]
  exact ⟨by simp; omega, by simp; omega, okset b.x okX0⟩
theorem get_x {p : Pn} (b : Bp p) (r : Rf) : okX ((getPn p r).getD fx0) := by
  unfold getPn
  split
  · rename_i h
    obtain ⟨n, _, _, hg, _⟩ := held_ix h.2
    exact b.x _ (List.mem_of_getElem? hg)
  · exact okX0
theorem small_b {p : Pn} {n : Int} (hn : n ≤ 2 ^ 30) (h : smallPn p n = true) (hx : ∀ c ∈ p.cells, okX c.x) : Bp p := by
  unfold smallPn at h
  simp only [Bool.and_eq_true, decide_eq_true_eq] at h
  exact ⟨by omega, by omega, hx⟩
end Go.Proofs.YtopgmnjijioheaaW.Rg
