/- The document's step with a frame: beginnings and ends. No conditions. -/
import Derived.Test.YtlpadffinfijgaaGreatVmT6
set_option linter.unusedVariables false
set_option linter.unusedSimpArgs false
namespace Go.Proofs.YtlpadffinfijgaaGreatW.Rg
open Go.Proofs.YtlpadffinfijgaaGreatW.Vm Go.Proofs.YtlpadffinfijgaaGreatW.Md
open Go Go.Proofs
/-- a slice, as it leaves -/
def oS {α : Type} (l : List α) : D → Option (List α)
  | .snil => none
  | _ => some l
theorem IsS.expO {H : List Ob} {α : Type} {z : Nat} {e : α → D} {l : List α} {d : D} (h : IsS H z (l.map e) d) (hc : cleans (l.map e) = true) : exp1 H d = some (encL z e (oS l d)) ∧ (oS l d).getD [] = l := by
  rcases h with ⟨rfl, hx⟩ | ⟨rfl, hx⟩ | ⟨id, ver, rest, rfl, hh⟩
  · have : l = [] := by simpa using hx
    subst this; exact ⟨by simp [oS, encL], rfl⟩
  · have : l = [] := by simpa using hx
    subst this; exact ⟨by simp [oS, encL], rfl⟩
  · refine ⟨?_, rfl⟩
    rw [exp_own, elsOf_own, hh, Option.bind_some, if_pos ⟨rfl, rfl, by simp⟩]
    simp [ownK_clean _ _ _ hc, oS, encL]
section
variable {H : List Ob} {f : Fr} {S L Z V : D} {vs : List Vl} {P : Nat → Prop}
/-- what was answered leaves by the first objects -/
theorem Rv.close {f' : Fr} {c : Ac} {r : Option (D × List Ob)} {o1 o2 : Ob} (h : Rv P H f' c r) (hP : ∀ i, P i → 3 ≤ i) (hl : 3 ≤ H.length) (h1 : H[1]? = some o1) (h2 : H[2]? = some o2) : ∃ H' S' L' Z' A', r = some (.tup [frC f' S' L' Z', encAc c A'], H') ∧ H'[1]? = some o1 ∧ H'[2]? = some o2 ∧ S'.one = true ∧ L'.one = true ∧ Z'.one = true ∧ A'.one = true ∧
      (∀ x y : Ob, exp1 ((H'.set 1 x).set 2 y) S' = some (encL 2 encV (oS f'.stack S'))) ∧ (∀ x y : Ob, exp1 ((H'.set 1 x).set 2 y) L' = some (encL 2 encV (oS f'.locals L'))) ∧ (∀ x y : Ob, exp1 ((H'.set 1 x).set 2 y) Z' = some (encL 6 encSlt (oS f'.slots Z'))) ∧ (∀ x y : Ob, exp1 ((H'.set 1 x).set 2 y) A' = some (encL 2 encV (oS c.args A'))) ∧
      IsF (frC f' (encL 2 encV (oS f'.stack S')) (encL 2 encV (oS f'.locals L')) (encL 6 encSlt (oS f'.slots Z'))) f' ∧ IsA (encAc c (encL 2 encV (oS c.args A'))) c ∧ 1 < H'.length ∧ 2 < H'.length ∧ (∀ o : Ob, (H'.set 1 o)[2]? = some o2) := by
  obtain ⟨H', S', L', Z', A', e, i1, i2, i3, i4, i5, i6⟩ := h
  have n1 : ¬ P 1 := fun h => by have := hP 1 h; omega
  have n2 : ¬ P 2 := fun h => by have := hP 2 h; omega
  have e1 : H'[1]? = some o1 := by rw [i5 1 (by omega) n1, h1]
  have e2 : H'[2]? = some o2 := by rw [i5 2 (by omega) n2, h2]
  have mp : ∀ i, Fp S' L' Z' A' i → i ≠ 1 ∧ i ≠ 2 := fun i hi => by
    rcases i6 i hi with h7 | h7
    · have := hP i h7; omega
    · omega
  have k : ∀ {z xs d} (x y : Ob), IsS H' z xs d → (∀ i, At d i → Fp S' L' Z' A' i) → IsS ((H'.set 1 x).set 2 y) z xs d := fun x y hd hi =>
    (hd.set (fun h => (mp 1 (hi 1 h)).1 rfl) x).set (fun h => (mp 2 (hi 2 h)).2 rfl) y
  exact ⟨H', S', L', Z', A', e, e1, e2, i1.one, i2.one, i3.one, i4.one, fun x y => ((k x y i1 (fun i h => .inl h)).expO (cl_vals _)).1, fun x y => ((k x y i2 (fun i h => .inr (.inl h))).expO (cl_vals _)).1, fun x y => ((k x y i3 (fun i h => .inr (.inr (.inl h)))).expO (cl_slts _)).1, fun x y => ((k x y i4 (fun i h => .inr (.inr (.inr h)))).expO (cl_vals _)).1,
    ⟨_, _, _, rfl, (i1.expO (cl_vals _)).2, (i2.expO (cl_vals _)).2, (i3.expO (cl_slts _)).2⟩, ⟨_, rfl, (i4.expO (cl_vals _)).2⟩, (List.getElem?_eq_some_iff.1 e1).1, (List.getElem?_eq_some_iff.1 e2).1, fun o => by rw [List.getElem?_set_ne (by decide), e2]⟩
end
/-- an instruction that asks for nothing -/
theorem run_lays (p : List Fu) (f : Fr) (x : Instr) (hx : imay x = true) (h13 : x.op ≠ 13) (h14 : x.op ≠ 14) (h15 : x.op ≠ 15) (h16 : x.op ≠ 16) (h6 : x.op = 6 → divG (a0 f 2) (a1 f 2) ≠ none) :
    runX p f x = (⟨f.fn, if x.op = 10 ∨ (x.op = 11 ∧ (a0 f 1).red = v0) then x.a else f.pc + 1, f.stack.take (f.stack.length - (off6 x.op).toNat) ++ laysX f x (topV f (off6 x.op).toNat), if x.op = 2 then f.locals.set x.a.toNat (a0 f 1) else f.locals, f.slots, f.seed, f.spawned, if x.op = 12 then IntKind.i64.wrap (f.draws + 1) else f.draws, f.state, f.wait, f.out, f.up, f.upSlot⟩, acN 1) := by
  have hi := imay_iff.1 hx
  have h5 : x.op = 0 ∨ x.op = 1 ∨ x.op = 2 ∨ x.op = 3 ∨ x.op = 4 ∨ x.op = 5 ∨ x.op = 6 ∨ x.op = 7 ∨ x.op = 8 ∨ x.op = 9 ∨ x.op = 10 ∨ x.op = 11 ∨ x.op = 12 := by omega
  unfold runX
  rw [if_neg h16, if_neg h15, if_neg h13, if_neg h14]
  rcases h5 with e | e | e | e | e | e | e | e | e | e | e | e | e
  · rw [if_neg (by omega)]; simp [plainF, e, laysX, off6, nextF, pushF, popF]
  · rw [if_neg (by omega)]; simp [plainF, e, laysX, off6, nextF, pushF, popF]
  · rw [if_neg (by omega)]; simp [plainF, e, laysX, off6, nextF, pushF, popF]
  · rw [if_pos (by omega)]; simp [twoF, e, laysX, off6, nextF, pushF, popF, a0, a1]
  · rw [if_pos (by omega)]; simp [twoF, e, laysX, off6, nextF, pushF, popF, a0, a1]
  · rw [if_pos (by omega)]; simp [twoF, e, laysX, off6, nextF, pushF, popF, a0, a1]
  · rw [if_pos (by omega)]
    have h7 := h6 e
    cases hq : divG (a0 f 2) (a1 f 2) with
    | none => exact absurd hq h7
    | some q =>
      have hq' : divG (((topV f 2)[0]?).getD v0) (((topV f 2)[1]?).getD v0) = some q := hq
      simp [twoF, e, hq, laysX, off6, nextF, pushF, popF, hq']
  · rw [if_neg (by omega)]; simp [plainF, e, laysX, off6, nextF, pushF, popF, a0]
  · rw [if_neg (by omega)]; simp [plainF, e, laysX, off6, nextF, pushF, popF, a0]
  · rw [if_neg (by omega)]; simp [plainF, e, laysX, off6, nextF, pushF, popF]
  · rw [if_neg (by omega)]; simp [plainF, e, laysX, off6, nextF, pushF, popF]
  · rw [if_neg (by omega)]
    by_cases h : (a0 f 1).red = v0 <;> simp [plainF, e, laysX, off6, nextF, pushF, popF, h]
  · rw [if_neg (by omega)]; simp [plainF, e, laysX, off6, nextF, pushF, popF]
theorem rdo_early (p : Option (List Fu)) (f : Fr) (a b : Option (List Vl)) (z : Option (List Slt)) (ha : a.getD [] = f.stack) (hb : b.getD [] = f.locals) (hz : z.getD [] = f.slots) (h : f.state ≠ 0 ∨ f.fn < 0 ∨ ((p.getD []).length : Int) ≤ f.fn) :
    Qd f (acN 0) (fnc Tryz.prog cfg R 33 [encProg p, frC f (encL 2 encV a) (encL 2 encV b) (encL 6 encSlt z)]) := by
  have ez : ∀ h : List Ob, exp1 h (encL 6 encSlt z) = some (encL 6 encSlt z) := fun h => exp_clean (by simp) (by simp)
  refine ⟨frC f (encL 2 encV a) (encL 2 encV b) (encL 6 encSlt z), zA, ?_, ⟨a, b, z, rfl, ha, hb, hz⟩, ⟨none, rfl, rfl⟩⟩
  rw [fnc_at rfl, body_eq Tryz.func33 rfl rfl]
  cases k1 : decide (f.state = 0)
  · simp [argsσ, Vm.results, k1, ez]
  cases k2 : decide (f.fn < 0)
  · have k3 : decide (((p.getD []).length : Int) ≤ f.fn) = true := dt (by have := of_decide_eq_true k1; have := of_decide_eq_false k2; omega)
    simp [argsσ, Vm.results, k1, k2, k3, ez]
  · simp [argsσ, Vm.results, k1, k2, ez]
end Go.Proofs.YtlpadffinfijgaaGreatW.Rg
