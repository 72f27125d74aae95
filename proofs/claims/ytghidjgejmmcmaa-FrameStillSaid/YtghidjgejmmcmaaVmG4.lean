/- Slices of one's own, and a runner in memory. No conditions. -/
import Derived.Test.YtghidjgejmmcmaaVmG3
import Derived.Test.YtghidjgejmmcmaaVmM9
set_option linter.unusedVariables false
set_option linter.unusedSimpArgs false
namespace Go.Proofs.YtghidjgejmmcmaaW.Rg
open Go.Proofs.YtghidjgejmmcmaaW.Vm Go.Proofs.YtghidjgejmmcmaaW.Md
open Go Go.Proofs
attribute [simp] stEl_some ldEl_some
theorem op_nilp {P : Program} {cfg : Cfg} {run : Run} (dst ty pos af g st x) : opD P cfg run ⟨dst, .nilCheck x, ty, pos, af, g⟩ st = (ev st.σ x).bind fun d => match d with | .ptr id ver i j => some (.ptr id ver i j, st.h) | .fptr z xs i j => some (.fptr z xs i j, st.h) | _ => none := by
  simp only [opD]; cases ev st.σ x with
  | none => rfl
  | some d => cases d <;> rfl
@[reducible] def encO (o : Ou) : D := .agg [I o.trap, I o.v.re, I o.v.im]
@[reducible] def encRf (o : Rf) : D := .agg [I o.ag, I o.gen]
@[reducible] def encSlt (s : Slt) : D := .agg [I s.state, I s.kid.ag, I s.kid.gen, I s.out.trap, I s.out.v.re, I s.out.v.im]
@[reducible] def frC (f : Fr) (S L Z : D) : D := .agg [I f.fn, I f.pc, S, L, Z, I f.seed, I f.spawned, I f.draws, I f.state, I f.wait, I f.out.trap, I f.out.v.re, I f.out.v.im, I f.up.ag, I f.up.gen, I f.upSlot]
@[reducible] def rnC (f : Fr) (S L Z P : D) (x : Instr) (c : Ac) (A : D) : D :=
  .agg [I f.fn, I f.pc, S, L, Z, I f.seed, I f.spawned, I f.draws, I f.state, I f.wait, I f.out.trap, I f.out.v.re, I f.out.v.im, I f.up.ag, I f.up.gen, I f.upSlot, P, I x.op, I x.a, I x.b, I c.kind, I c.fn, I c.slot, I c.seed, A]
/-- a slice that may be written and appended to -/
def IsS (H : List Ob) (z : Nat) (xs : List D) (d : D) : Prop :=
  (d = .snil ∧ xs = []) ∨ (d = .sl z [] true ∧ xs = []) ∨ ∃ id ver rest, d = .own z id ver 0 xs.length ∧ H[id]? = some ⟨ver, z, xs ++ rest, 0⟩
/-- its object -/
def At : D → Nat → Prop
  | .own _ id _ _ _, i => id = i
  | _, _ => False
@[simp] theorem at_snil (i) : ¬ At .snil i := id
@[simp] theorem at_sl (z xs t i) : ¬ At (.sl z xs t) i := id
@[simp] theorem at_own (z id v o l i) : At (.own z id v o l) i ↔ id = i := Iff.rfl
section
variable {H H' : List Ob} {z : Nat} {xs : List D} {d : D}
theorem IsS.one (h : IsS H z xs d) : d.one = true := by rcases h with ⟨rfl, _⟩ | ⟨rfl, _⟩ | ⟨id, ver, rest, rfl, _⟩ <;> simp
theorem IsS.cells (h : IsS H z xs d) : d.cells = [d] := by rcases h with ⟨rfl, _⟩ | ⟨rfl, _⟩ | ⟨id, ver, rest, rfl, _⟩ <;> simp
theorem IsS.len (h : IsS H z xs d) : lenS d = some xs.length := by rcases h with ⟨rfl, rfl⟩ | ⟨rfl, rfl⟩ | ⟨id, ver, rest, rfl, _⟩ <;> simp
theorem IsS.els (h : IsS H z xs d) : elsZ H z d = some xs := by
  rcases h with ⟨rfl, rfl⟩ | ⟨rfl, rfl⟩ | ⟨id, ver, rest, rfl, hh⟩
  · simp
  · simp
  · rw [elsZ_own, elsOf_own, hh, Option.bind_some, if_pos ⟨rfl, rfl, by simp⟩]; simp
theorem IsS.lt (h : IsS H z xs d) {i : Nat} (hi : At d i) : i < H.length := by
  rcases h with ⟨rfl, rfl⟩ | ⟨rfl, rfl⟩ | ⟨id, ver, rest, rfl, hh⟩
  · exact absurd hi (at_snil i)
  · exact absurd hi (at_sl _ _ _ i)
  · rw [at_own] at hi; subst hi; exact (List.getElem?_eq_some_iff.1 hh).1
theorem IsS.keep (h : IsS H z xs d) (hk : ∀ i, At d i → H'[i]? = H[i]?) : IsS H' z xs d := by
  rcases h with ⟨rfl, rfl⟩ | ⟨rfl, rfl⟩ | ⟨id, ver, rest, rfl, hh⟩
  · exact .inl ⟨rfl, rfl⟩
  · exact .inr (.inl ⟨rfl, rfl⟩)
  · exact .inr (.inr ⟨id, ver, rest, rfl, by rw [hk id rfl, hh]⟩)
theorem IsS.app (h : IsS H z xs d) (t : List Ob) : IsS (H ++ t) z xs d := h.keep fun i hi => get_lt (h.lt hi)
theorem IsS.set (h : IsS H z xs d) {r : Nat} (hr : ¬ At d r) (o : Ob) : IsS (H.set r o) z xs d := h.keep fun i hi => by
  rw [List.getElem?_set_ne]; rintro rfl; exact hr hi
theorem IsS.exp (h : IsS H z xs d) (hc : cleans xs = true) : ∃ o : Bool, exp1 H d = some (if o = true ∧ xs = [] then .snil else .sl z xs false) := by
  rcases h with ⟨rfl, rfl⟩ | ⟨rfl, rfl⟩ | ⟨id, ver, rest, rfl, hh⟩
  · exact ⟨true, by simp⟩
  · exact ⟨false, by simp⟩
  · refine ⟨false, ?_⟩
    rw [exp_own, elsOf_own, hh, Option.bind_some, if_pos ⟨rfl, rfl, by simp⟩]
    simp [ownK_clean _ _ _ hc]
end
theorem IsS.exp' {H : List Ob} {α : Type} {z : Nat} {e : α → D} {l : List α} {d : D} (h : IsS H z (l.map e) d) (hc : cleans (l.map e) = true) : ∃ o : Option (List α), exp1 H d = some (encL z e o) ∧ o.getD [] = l := by
  obtain ⟨b, hb⟩ := h.exp hc
  by_cases hq : b = true ∧ l.map e = []
  · rw [if_pos hq] at hb
    exact ⟨none, hb, by have := hq.2; simp at this; simp [this]⟩
  · rw [if_neg hq] at hb
    exact ⟨some l, hb, rfl⟩
theorem cl_vals : ∀ l : List Vl, cleans (l.map encV) = true
  | [] => rfl
  | x :: l => by simp [cl_vals l]
theorem cl_slts : ∀ l : List Slt, cleans (l.map encSlt) = true
  | [] => rfl
  | x :: l => by simp [cl_slts l]
theorem bq_vals : ∀ l : List Vl, beqs (l.map encV) (l.map encV) = true
  | [] => by simp
  | x :: l => by simp [bq_vals l]
theorem bq_slts : ∀ l : List Slt, beqs (l.map encSlt) (l.map encSlt) = true
  | [] => by simp
  | x :: l => by simp [bq_slts l]
/-- a copy of one's own -/
def Src (H : List Ob) (z : Nat) (xs : List D) (d : D) : Prop := (d = .snil ∧ xs = []) ∨ (∃ t, d = .sl z xs t) ∨ ∃ id ver off len, d = .own z id ver off len ∧ elsZ H z d = some xs
theorem clone_spec {H : List Ob} {d : D} {xs : List D} (h : Src H 2 xs d) (hl : xs.length * 16 ≤ 2 ^ 47) :
    ∃ d' t, body Try.prog R 56 [d] H = some (d', H ++ t) ∧ IsS (H ++ t) 2 xs d' ∧ (∀ i, At d' i → H.length ≤ i) ∧ (∀ i, At d' i → i < H.length + t.length) := by
  rw [body_eq Try.func56 rfl rfl]
  have ap : ∀ h : List Ob, xs ≠ [] → apK 16 2 h (D.sl 2 [] true) [] xs = some (.own 2 h.length 0 0 xs.length, h ++ [⟨0, 2, xs, 0⟩]) := by
    intro h hx
    have hne : xs.length ≠ 0 := fun e => hx (List.length_eq_zero_iff.1 e)
    rw [apK_ok (by simp only [List.length_nil]; omega), apN_sl' hne]; simp [newOb]
  have ap0 : ∀ h : List Ob, apK 16 2 h (D.sl 2 [] true) [] [] = some (.sl 2 [] true, h) := by
    intro h; rw [apK_ok (by simp), apN_nil]
  rcases h with ⟨rfl, rfl⟩ | ⟨t, rfl⟩ | ⟨id, ver, off, len, rfl, he⟩
  · exact ⟨.snil, [], by simp [argsσ, Vm.results, binD, scal, eqD], .inl ⟨rfl, rfl⟩, fun i hi => absurd hi (at_snil i), fun i hi => absurd hi (at_snil i)⟩
  · by_cases hx : xs = []
    · subst hx
      exact ⟨.sl 2 [] true, [], by simp [argsσ, Vm.results, binD, scal, eqD, ap0], .inr (.inl ⟨rfl, rfl⟩), fun i hi => absurd hi (at_sl _ _ _ i), fun i hi => absurd hi (at_sl _ _ _ i)⟩
    · refine ⟨.own 2 H.length 0 0 xs.length, [⟨0, 2, xs, 0⟩], by simp [argsσ, Vm.results, binD, scal, eqD, ap, hx], .inr (.inr ⟨H.length, 0, [], rfl, by simp⟩), fun i hi => ?_, fun i hi => ?_⟩ <;> (rw [at_own] at hi; subst hi; simp)
  · by_cases hx : xs = []
    · subst hx
      exact ⟨.sl 2 [] true, [], by simp [argsσ, Vm.results, binD, scal, eqD, ap0, he], .inr (.inl ⟨rfl, rfl⟩), fun i hi => absurd hi (at_sl _ _ _ i), fun i hi => absurd hi (at_sl _ _ _ i)⟩
    · refine ⟨.own 2 H.length 0 0 xs.length, [⟨0, 2, xs, 0⟩], by simp [argsσ, Vm.results, binD, scal, eqD, ap, hx, he], .inr (.inr ⟨H.length, 0, [], rfl, by simp⟩), fun i hi => ?_, fun i hi => ?_⟩ <;> (rw [at_own] at hi; subst hi; simp)
theorem clone6_spec {H : List Ob} {d : D} {xs : List D} (h : Src H 6 xs d) (hl : xs.length * 48 ≤ 2 ^ 47) :
    ∃ d' t, body Try.prog R 57 [d] H = some (d', H ++ t) ∧ IsS (H ++ t) 6 xs d' ∧ (∀ i, At d' i → H.length ≤ i) ∧ (∀ i, At d' i → i < H.length + t.length) := by
  rw [body_eq Try.func57 rfl rfl]
  have ap : ∀ h : List Ob, xs ≠ [] → apK 48 6 h (D.sl 6 [] true) [] xs = some (.own 6 h.length 0 0 xs.length, h ++ [⟨0, 6, xs, 0⟩]) := by
    intro h hx
    have hne : xs.length ≠ 0 := fun e => hx (List.length_eq_zero_iff.1 e)
    rw [apK_ok (by simp only [List.length_nil]; omega), apN_sl' hne]; simp [newOb]
  have ap0 : ∀ h : List Ob, apK 48 6 h (D.sl 6 [] true) [] [] = some (.sl 6 [] true, h) := by
    intro h; rw [apK_ok (by simp), apN_nil]
  rcases h with ⟨rfl, rfl⟩ | ⟨t, rfl⟩ | ⟨id, ver, off, len, rfl, he⟩
  · exact ⟨.snil, [], by simp [argsσ, Vm.results, binD, scal, eqD], .inl ⟨rfl, rfl⟩, fun i hi => absurd hi (at_snil i), fun i hi => absurd hi (at_snil i)⟩
  · by_cases hx : xs = []
    · subst hx
      exact ⟨.sl 6 [] true, [], by simp [argsσ, Vm.results, binD, scal, eqD, ap0], .inr (.inl ⟨rfl, rfl⟩), fun i hi => absurd hi (at_sl _ _ _ i), fun i hi => absurd hi (at_sl _ _ _ i)⟩
    · refine ⟨.own 6 H.length 0 0 xs.length, [⟨0, 6, xs, 0⟩], by simp [argsσ, Vm.results, binD, scal, eqD, ap, hx], .inr (.inr ⟨H.length, 0, [], rfl, by simp⟩), fun i hi => ?_, fun i hi => ?_⟩ <;> (rw [at_own] at hi; subst hi; simp)
  · by_cases hx : xs = []
    · subst hx
      exact ⟨.sl 6 [] true, [], by simp [argsσ, Vm.results, binD, scal, eqD, ap0, he], .inr (.inl ⟨rfl, rfl⟩), fun i hi => absurd hi (at_sl _ _ _ i), fun i hi => absurd hi (at_sl _ _ _ i)⟩
    · refine ⟨.own 6 H.length 0 0 xs.length, [⟨0, 6, xs, 0⟩], by simp [argsσ, Vm.results, binD, scal, eqD, ap, hx, he], .inr (.inr ⟨H.length, 0, [], rfl, by simp⟩), fun i hi => ?_, fun i hi => ?_⟩ <;> (rw [at_own] at hi; subst hi; simp)
/-- a frame, in memory of its own -/
theorem cloneF_spec (f : Fr) {S L Z : D} {H : List Ob} (hS : Src [] 2 (f.stack.map encV) S) (hL : Src [] 2 (f.locals.map encV) L) (hZ : Src [] 6 (f.slots.map encSlt) Z)
    (h1 : f.stack.length ≤ 2 ^ 40) (h2 : f.locals.length ≤ 2 ^ 40) (h3 : f.slots.length ≤ 2 ^ 40) :
    ∃ S' L' Z' t, body Try.prog R 28 [frC f S L Z] H = some (frC f S' L' Z', H ++ t) ∧ IsS (H ++ t) 2 (f.stack.map encV) S' ∧ IsS (H ++ t) 2 (f.locals.map encV) L' ∧ IsS (H ++ t) 6 (f.slots.map encSlt) Z' ∧
      (∀ i, At S' i → ¬ At L' i) ∧ (∀ i, At S' i → ¬ At Z' i) ∧ (∀ i, At L' i → ¬ At Z' i) ∧ (∀ i, At S' i ∨ At L' i ∨ At Z' i → H.length ≤ i) := by
  have sr : ∀ (z : Nat) (xs : List D) (d : D) (H : List Ob), Src [] z xs d → Src H z xs d := by
    intro z xs d H h
    rcases h with h | h | ⟨id, ver, off, len, rfl, he⟩
    · exact .inl h
    · exact .inr (.inl h)
    · simp [elsZ_own, elsOf_own] at he
  have s1 : ∀ {H : List Ob} {z xs d}, Src H z xs d → d.one = true := by
    intro H z xs d h
    rcases h with ⟨rfl, _⟩ | ⟨t, rfl⟩ | ⟨id, ver, off, len, rfl, he⟩ <;> simp
  have o1 := s1 hS; have o2 := s1 hL; have o3 := s1 hZ
  have sb : ∀ {z : Nat} {xs : List D} {d : D}, Src [] z xs d → beqs xs xs = true → beq d d = true := by
    intro z xs d h hq
    rcases h with ⟨rfl, _⟩ | ⟨t, rfl⟩ | ⟨id, ver, off, len, rfl, he⟩
    · simp
    · simp [hq]
    · simp [elsZ_own, elsOf_own] at he
  have q2 := sb hL (bq_vals _); have q3 := sb hZ (bq_slts _)
  obtain ⟨a, ha⟩ : ∃ a : Ob, a = ⟨0, 16, [frC f S L Z], 0⟩ := ⟨_, rfl⟩
  obtain ⟨b, hb⟩ : ∃ b : Ob, b = ⟨0, 16, [.agg [I 0, I 0, .snil, .snil, .snil, I 0, I 0, I 0, I 0, I 0, I 0, I 0, I 0, I 0, I 0, I 0]], 0⟩ := ⟨_, rfl⟩
  obtain ⟨S', t1, e1, i1, g1, l1⟩ := clone_spec (H := H ++ [a, b]) (sr _ _ _ _ hS) (by simp; omega)
  obtain ⟨L', t2, e2, i2, g2, l2⟩ := clone_spec (H := H ++ a :: b :: t1) (sr _ _ _ _ hL) (by simp; omega)
  obtain ⟨Z', t3, e3, i3, g3, l3⟩ := clone6_spec (H := H ++ a :: b :: (t1 ++ t2)) (sr _ _ _ _ hZ) (by simp; omega)
  have n1 := i1.one; have n2 := i2.one; have n3 := i3.one
  have c1 := i1.cells; have c2 := i2.cells; have c3 := i3.cells
  simp only [List.append_assoc, List.cons_append, List.nil_append] at e1 e2 e3 i1 i2 i3
  simp only [List.length_append, List.length_cons, List.length_nil] at g1 g2 g3 l1 l2 l3
  refine ⟨S', L', Z', ⟨0, 16, [frC f S' L' Z'], 0⟩ :: ⟨0, 16, [frC f S' L' Z'], 0⟩ :: (t1 ++ (t2 ++ t3)), ?_, ?_, ?_, ?_, ?_, ?_, ?_, ?_⟩
  · subst ha hb
    have hd := dr28_1
    simp [opsAt, opsIn, Try.f28] at hd
    have hdw := Wdraw hd
    clear hd
    rw [body_eq Try.func28 rfl rfl]
    simp [argsσ, Vm.results, hdw, o1, o2, o3, e1, e2, e3, n1, n2, n3, c1, c2, c3, q2, q3, logL, loud, isE, drawChk]
  · refine i1.keep fun i hi => ?_
    have := g1 i hi; have := l1 i hi
    obtain ⟨k, rfl⟩ : ∃ k, i = H.length + (k + 2) := ⟨i - H.length - 2, by omega⟩
    rw [get_app rfl, get_app rfl]
    simp only [List.getElem?_cons_succ]
    rw [List.getElem?_append_left (by omega)]
  · refine i2.keep fun i hi => ?_
    have := g2 i hi; have := l2 i hi
    obtain ⟨k, rfl⟩ : ∃ k, i = H.length + (k + 2) := ⟨i - H.length - 2, by omega⟩
    rw [get_app rfl, get_app rfl]
    simp only [List.getElem?_cons_succ]
    rw [← List.append_assoc, List.getElem?_append_left (by simp; omega)]
  · refine i3.keep fun i hi => ?_
    have := g3 i hi; have := l3 i hi
    obtain ⟨k, rfl⟩ : ∃ k, i = H.length + (k + 2) := ⟨i - H.length - 2, by omega⟩
    rw [get_app rfl, get_app rfl]
    simp only [List.getElem?_cons_succ]
  · intro i h1 h2; have := l1 i h1; have := g2 i h2; omega
  · intro i h1 h2; have := l1 i h1; have := g3 i h2; omega
  · intro i h1 h2; have := l2 i h1; have := g3 i h2; omega
  · rintro i (h1 | h1 | h1)
    · have := g1 i h1; omega
    · have := g2 i h1; omega
    · have := g3 i h1; omega
end Go.Proofs.YtghidjgejmmcmaaW.Rg
