/- A runner's methods: end, trap, pop, push, off, room, there. No conditions. -/
import Derived.Test.YtghidjgejmmcmaaVmG4
set_option linter.unusedVariables false
set_option linter.unusedSimpArgs false
namespace Go.Proofs.YtghidjgejmmcmaaW.Rg
open Go.Proofs.YtghidjgejmmcmaaW.Vm Go.Proofs.YtghidjgejmmcmaaW.Md
open Go Go.Proofs
theorem gs0 {H : List Ob} {r : Nat} (h : r < H.length) (o : Ob) : (H.set r o)[r]? = some o := List.getElem?_set_self h
theorem gsA {H : List Ob} {r : Nat} (h : r < H.length) (o : Ob) (t : List Ob) : (H.set r o ++ t)[r]? = some o := by rw [get_lt (by simpa using h), gs0 h]
theorem stA {H : List Ob} {r : Nat} (h : r < H.length) (o : Ob) (t : List Ob) : (H ++ t).set r o = H.set r o ++ t := set_lt h o
theorem ssA {H : List Ob} {r : Nat} (h : r < H.length) (o o' : Ob) (t : List Ob) : (H.set r o ++ t).set r o' = H.set r o' ++ t := by rw [set_lt (by simpa using h), List.set_set]
/-- a runner in memory -/
structure Rn (B H : List Ob) (r : Nat) (f : Fr) (P : D) (x : Instr) (c : Ac) (S L Z A : D) : Prop where
  o : H[r]? = some ⟨0, 25, [rnC f S L Z P x c A], 0⟩
  s : IsS H 2 (f.stack.map encV) S
  l : IsS H 2 (f.locals.map encV) L
  z : IsS H 6 (f.slots.map encSlt) Z
  a : IsS H 2 (c.args.map encV) A
  rs : ¬ At S r
  rl : ¬ At L r
  rz : ¬ At Z r
  ra : ¬ At A r
  sl : ∀ i, At S i → ¬ At L i
  sz : ∀ i, At S i → ¬ At Z i
  sa : ∀ i, At S i → ¬ At A i
  lz : ∀ i, At L i → ¬ At Z i
  la : ∀ i, At L i → ¬ At A i
  za : ∀ i, At Z i → ¬ At A i
  pre : ∀ i, i < B.length → H[i]? = B[i]?
  br : B.length ≤ r
  bs : ∀ i, At S i → B.length ≤ i
  bl : ∀ i, At L i → B.length ≤ i
  bz : ∀ i, At Z i → B.length ≤ i
  ba : ∀ i, At A i → B.length ≤ i
section
variable {B H : List Ob} {r : Nat} {f : Fr} {P : D} {x : Instr} {c : Ac} {S L Z A : D}
theorem Rn.lt (h : Rn B H r f P x c S L Z A) : r < H.length := get_some_lt' h.o
where get_some_lt' {α : Type} {l : List α} {i : Nat} {x : α} (h : l[i]? = some x) : i < l.length := (List.getElem?_eq_some_iff.1 h).1
theorem Rn.get (h : Rn B H r f P x c S L Z A) (t : List Ob) : (H ++ t)[r]? = some ⟨0, 25, [rnC f S L Z P x c A], 0⟩ := by rw [get_lt h.lt, h.o]
theorem Rn.app (h : Rn B H r f P x c S L Z A) (t : List Ob) : Rn B (H ++ t) r f P x c S L Z A :=
  ⟨h.get t, h.s.app t, h.l.app t, h.z.app t, h.a.app t, h.rs, h.rl, h.rz, h.ra, h.sl, h.sz, h.sa, h.lz, h.la, h.za, fun i hi => by rw [get_lt (by have := h.br; have := h.lt; omega)]; exact h.pre i hi, h.br, h.bs, h.bl, h.bz, h.ba⟩
/-- other numbers, the same lists -/
theorem Rn.upd (h : Rn B H r f P x c S L Z A) (f' : Fr) (x' : Instr) (c' : Ac) (A' : D) (h1 : f'.stack = f.stack) (h2 : f'.locals = f.locals) (h3 : f'.slots = f.slots) (hA : A' = .snil ∧ c'.args = [] ∨ A' = A ∧ c'.args = c.args) :
    Rn B (H.set r ⟨0, 25, [rnC f' S L Z P x' c' A'], 0⟩) r f' P x' c' S L Z A' := by
  refine ⟨List.getElem?_set_self h.lt, by rw [h1]; exact h.s.set h.rs _, by rw [h2]; exact h.l.set h.rl _, by rw [h3]; exact h.z.set h.rz _, ?_, h.rs, h.rl, h.rz, ?_, h.sl, h.sz, ?_, h.lz, ?_, ?_, fun i hi => by rw [List.getElem?_set_ne (by have := h.br; omega)]; exact h.pre i hi, h.br, h.bs, h.bl, h.bz, ?_⟩
  · rcases hA with ⟨rfl, e⟩ | ⟨rfl, e⟩
    · exact .inl ⟨rfl, by rw [e]; rfl⟩
    · rw [e]; exact h.a.set h.ra _
  · rcases hA with ⟨rfl, e⟩ | ⟨rfl, e⟩
    · exact at_snil r
    · exact h.ra
  · rcases hA with ⟨rfl, e⟩ | ⟨rfl, e⟩
    · exact fun i _ => at_snil i
    · exact h.sa
  · rcases hA with ⟨rfl, e⟩ | ⟨rfl, e⟩
    · exact fun i _ => at_snil i
    · exact h.la
  · rcases hA with ⟨rfl, e⟩ | ⟨rfl, e⟩
    · exact fun i _ => at_snil i
    · exact h.za
  · rcases hA with ⟨rfl, e⟩ | ⟨rfl, e⟩
    · exact fun i hi => absurd hi (at_snil i)
    · exact h.ba
theorem end_spec (h : Rn B H r f P x c S L Z A) (o : Ou) : ∃ H', body Try.prog R 32 [.ptr r 0 0 0, encO o] H = some (.tup [], H') ∧ Rn B H' r { f with state := 2, out := o } P x (acN 4) S L Z .snil := by
  have hg := h.get
  have hn := h.lt
  refine ⟨(H.set r ⟨0, 25, [rnC { f with state := 2, out := o } S L Z P x (acN 4) .snil], 0⟩) ++ [⟨0, 3, [encO o], 0⟩], ?_, (h.upd { f with state := 2, out := o } x (acN 4) .snil rfl rfl rfl (.inl ⟨rfl, rfl⟩)).app _⟩
  have hd := dr32_1
  simp [opsAt, opsIn, Try.f32] at hd
  have hdw := Wdraw hd
  clear hd
  rw [body_eq Try.func32 rfl rfl]
  simp [argsσ, Vm.results, hdw, hg, hn, gs0 hn, gsA hn, stA hn, ssA hn, op_nilp, -getElem?_pos, logL, loud, isE, drawChk, acN]
theorem trap_spec (h : Rn B H r f P x c S L Z A) (k : Int) : ∃ H', body Try.prog R 30 [.ptr r 0 0 0, I k] H = some (.tup [], H') ∧ Rn B H' r (trapF f k).1 P x (acN 4) S L Z .snil := by
  obtain ⟨H', e, h'⟩ := end_spec h ⟨k, v0⟩
  refine ⟨H', ?_, h'⟩
  rw [show encO ⟨k, v0⟩ = .agg [I k, I 0, I 0] from rfl] at e
  rw [body_eq Try.func30 rfl rfl]
  simp [argsσ, Vm.results, e]
/-- other stack, the rest as it was -/
theorem Rn.restack (h : Rn B H r f P x c S L Z A) {H' : List Ob} (f' : Fr) (S' : D) (t : List Ob) (h2 : f'.locals = f.locals) (h3 : f'.slots = f.slots) (hH : H'.length = H.length) (hH2 : ∀ i, i ≠ r → ¬ At S i → H'[i]? = H[i]?) (ho : H'[r]? = some ⟨0, 25, [rnC f' S' L Z P x c A], 0⟩)
    (hs : IsS (H' ++ t) 2 (f'.stack.map encV) S') (ha : ∀ i, At S' i → At S i ∨ H.length ≤ i) : Rn B (H' ++ t) r f' P x c S' L Z A := by
  have hlt := h.lt
  have k : ∀ {z xs d}, IsS H z xs d → ¬ At d r → (∀ i, At S i → ¬ At d i) → IsS (H' ++ t) z xs d := by
    intro z xs d hd h1 h4
    refine hd.keep fun i hi => ?_
    have := hd.lt hi
    rw [get_lt (by omega)]
    exact hH2 i (by rintro rfl; exact h1 hi) (fun h5 => h4 i h5 hi)
  have n : ∀ {z xs d}, IsS H z xs d → (∀ i, At S i → ¬ At d i) → ∀ i, At S' i → ¬ At d i := by
    intro z xs d hd h4 i hi hj
    rcases ha i hi with h5 | h5
    · exact h4 i h5 hj
    · have := hd.lt hj; omega
  refine ⟨by rw [get_lt (by omega), ho], hs, by rw [h2]; exact k h.l h.rl h.sl, by rw [h3]; exact k h.z h.rz h.sz, k h.a h.ra h.sa, ?_, h.rl, h.rz, h.ra, n h.l h.sl, n h.z h.sz, n h.a h.sa, h.lz, h.la, h.za, fun i hi => by rw [get_lt (by have := h.br; omega), hH2 i (by have := h.br; omega) (fun h5 => by have := h.bs i h5; omega)]; exact h.pre i hi, h.br, fun i hi => by
    rcases ha i hi with h5 | h5
    · exact h.bs i h5
    · have := h.br; omega, h.bl, h.bz, h.ba⟩
  intro hr
  rcases ha r hr with h5 | h5
  · exact h.rs h5
  · omega
theorem pop_spec (h : Rn B H r f P x c S L Z A) (n : Nat) (hn : n ≤ f.stack.length) (hl : f.stack.length ≤ 2 ^ 40) : ∃ H' S' d, body Try.prog R 33 [.ptr r 0 0 0, I n] H = some (d, H') ∧ Rn B H' r (popF f n) P x c S' L Z A ∧
    IsS H' 2 ((topV f n).map encV) d ∧ (∀ i, At d i → H.length ≤ i) ∧ (∀ i, At S' i → At S i) := by
  have hg := h.get; have ho := h.o; have hlt := h.lt
  have hw : IntKind.i64.wrap ((f.stack.length : Int) - n) = ((f.stack.length - n : Nat) : Int) := by rw [wr (by omega) (by omega)]; omega
  have hrs := h.rs
  have hlen : (f.stack.map encV).length = f.stack.length := by simp
  have hb : bndD f.stack.length 0 (some (I ((f.stack.length - n : Nat) : Int))) = some (f.stack.length - n) := by
    simp only [bndD]; rw [if_pos (by omega)]; simp
  have hb2 : ∀ k, bndD f.stack.length k (some (I ((f.stack.length - n : Nat) : Int))) = some (f.stack.length - n) := by
    intro k; simp only [bndD]; rw [if_pos (by omega)]; simp
  have hsub : f.stack.length - (f.stack.length - n) = n := by omega
  have hnd : n ≤ 2 ^ 40 := by omega
  generalize hm : f.stack.length - n = m at *
  have hml : m ≤ f.stack.length := by omega
  have cs := h.s
  rcases cs with ⟨rfl, hx⟩ | ⟨rfl, hx⟩ | ⟨id, ver, rest, rfl, hh⟩
  · have hx : f.stack = [] := by simpa using hx
    obtain ⟨d', t, e, i1, g1, l1⟩ := clone_spec (H := H) (d := .snil) (xs := []) (.inl ⟨rfl, rfl⟩) (by simp)
    have hm0 : m = 0 := by rw [hx] at hml; simpa using hml
    have e1 : popF f n = f := by unfold popF; rw [hx]; simp; rw [← hx]
    have e2 : topV f n = [] := by unfold topV; rw [hx]; simp
    rw [e1, e2]
    have hn0 : n = 0 := by rw [hx] at hn; simpa using hn
    have hz : IntKind.i64.wrap 0 = 0 := by decide
    subst hn0
    refine ⟨(H.set r ⟨0, 25, [rnC f .snil L Z P x c A], 0⟩) ++ t, .snil, d', ?_, ((h.upd f x c A rfl rfl rfl (.inr ⟨rfl, rfl⟩)).app t), ?_, fun i hi => g1 i hi, fun i hi => hi⟩
    · have hself : H.set r ⟨0, 25, [rnC f .snil L Z P x c A], 0⟩ = H := by
        have := List.getElem?_eq_some_iff.1 ho
        rw [← this.2, List.set_getElem_self]
      rw [body_eq Try.func33 rfl rfl]
      simp [argsσ, Vm.results, hg, ho, hlt, gs0 hlt, gsA hlt, stA hlt, ssA hlt, op_nilp, -getElem?_pos, hz, sliceD, bndD, e, hself]
    · refine i1.keep fun i hi => ?_
      have g2 := g1 i hi
      obtain ⟨k, rfl⟩ : ∃ k, i = H.length + k := ⟨i - H.length, by omega⟩
      rw [get_app rfl, get_app (by simp)]
  · have hx : f.stack = [] := by simpa using hx
    obtain ⟨d', t, e, i1, g1, l1⟩ := clone_spec (H := H) (d := .sl 2 [] true) (xs := []) (.inr (.inl ⟨true, rfl⟩)) (by simp)
    have hm0 : m = 0 := by rw [hx] at hml; simpa using hml
    have e1 : popF f n = f := by unfold popF; rw [hx]; simp; rw [← hx]
    have e2 : topV f n = [] := by unfold topV; rw [hx]; simp
    rw [e1, e2]
    have hn0 : n = 0 := by rw [hx] at hn; simpa using hn
    have hz : IntKind.i64.wrap 0 = 0 := by decide
    subst hn0
    refine ⟨(H.set r ⟨0, 25, [rnC f (.sl 2 [] true) L Z P x c A], 0⟩) ++ t, .sl 2 [] true, d', ?_, ((h.upd f x c A rfl rfl rfl (.inr ⟨rfl, rfl⟩)).app t), ?_, fun i hi => g1 i hi, fun i hi => hi⟩
    · have hself : H.set r ⟨0, 25, [rnC f (.sl 2 [] true) L Z P x c A], 0⟩ = H := by
        have := List.getElem?_eq_some_iff.1 ho
        rw [← this.2, List.set_getElem_self]
      rw [body_eq Try.func33 rfl rfl]
      simp [argsσ, Vm.results, hg, ho, hlt, gs0 hlt, gsA hlt, stA hlt, ssA hlt, op_nilp, -getElem?_pos, hz, sliceD, bndD, e, hself]
    · refine i1.keep fun i hi => ?_
      have g2 := g1 i hi
      obtain ⟨k, rfl⟩ : ∃ k, i = H.length + k := ⟨i - H.length, by omega⟩
      rw [get_app rfl, get_app (by simp)]
  · rw [hlen] at *
    rw [at_own] at hrs
    have hel : elsZ H 2 (.own 2 id ver m n) = some ((topV f n).map encV) := by
      rw [elsZ_own, elsOf_own, hh, Option.bind_some, if_pos ⟨rfl, rfl, by simp; omega⟩]
      simp only
      rw [List.drop_append_of_le_length (by simp; omega), List.take_append_of_le_length (by simp; omega), List.take_of_length_le (by simp; omega)]
      unfold topV
      rw [hm, List.map_drop]
    obtain ⟨d', t, e, i1, g1, l1⟩ := clone_spec (H := H) (d := .own 2 id ver m n) (xs := (topV f n).map encV) (.inr (.inr ⟨id, ver, m, n, rfl, hel⟩)) (by unfold topV; simp; omega)
    have ho' : (H.set r ⟨0, 25, [rnC (popF f n) (.own 2 id ver 0 m) L Z P x c A], 0⟩)[id]? = some ⟨ver, 2, f.stack.map encV ++ rest, 0⟩ := by
      rw [List.getElem?_set_ne (fun e => hrs e.symm), hh]
    refine ⟨(H.set r ⟨0, 25, [rnC (popF f n) (.own 2 id ver 0 m) L Z P x c A], 0⟩) ++ t, .own 2 id ver 0 m, d', ?_, h.restack _ _ t rfl rfl (by simp) (fun i h1 h2 => List.getElem?_set_ne (Ne.symm h1)) (List.getElem?_set_self hlt) ?_ (fun i hi => .inl hi), ?_, fun i hi => g1 i hi, fun i hi => hi⟩
    · have hbm : ∀ k, bndD m k none = some k := fun k => rfl
      have hb3 : bndD f.stack.length 0 (some (D.int .i64 (m : Int))) = some m := hb2 0
      have hb4 : bndD f.stack.length f.stack.length (some (D.int .i64 (m : Int))) = some m := hb2 _
      have sl1 : ∀ h : List Ob, sliceD Try.prog h 28 (.own 2 id ver 0 f.stack.length) (some (D.int .i64 (m : Int))) none none = some (.own 2 id ver m n, h) := by
        intro h
        simp only [sliceD, un28, show ∀ a b, bndD a b none = some b from fun _ _ => rfl, hb3, sz33]
        simp [hsub]
      have sl2 : ∀ h : List Ob, sliceD Try.prog h 28 (.own 2 id ver 0 f.stack.length) none (some (D.int .i64 (m : Int))) none = some (.own 2 id ver 0 m, h) := by
        intro h
        simp only [sliceD, un28, show ∀ a b, bndD a b none = some b from fun _ _ => rfl, hb4, sz33]
        simp [hml]
      rw [body_eq Try.func33 rfl rfl]
      simp [argsσ, Vm.results, hg, ho, hlt, gs0 hlt, gsA hlt, stA hlt, ssA hlt, op_nilp, -getElem?_pos, hw, sl1, sl2, e]
      rfl
    · refine .inr (.inr ⟨id, ver, f.stack.map encV |>.drop m |>.append rest, by unfold popF; simp only [hm]; simp; omega, ?_⟩)
      have hid := (List.getElem?_eq_some_iff.1 hh).1
      rw [get_lt (by simp; exact hid), ho']
      congr 2
      unfold popF
      simp only [hm]
      rw [show ((f.stack.map encV).drop m).append rest = (f.stack.map encV).drop m ++ rest from rfl, ← List.append_assoc, List.map_take, List.take_append_drop]
    · refine i1.keep fun i hi => ?_
      have g2 := g1 i hi
      obtain ⟨k, rfl⟩ : ∃ k, i = H.length + k := ⟨i - H.length, by omega⟩
      rw [get_app rfl, get_app (by simp)]
end
end Go.Proofs.YtghidjgejmmcmaaW.Rg
