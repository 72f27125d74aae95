/- Slices of one's own, and a runner in memory. No conditions. -/
import Derived.Test.YtlpadffinfijgaaVmGA
import Derived.Test.YtlpadffinfijgaaVmMM
set_option linter.unusedVariables false
set_option linter.unusedSimpArgs false
namespace Go.Proofs.YtlpadffinfijgaaW.Rg
open Go.Proofs.YtlpadffinfijgaaW.Vm Go.Proofs.YtlpadffinfijgaaW.Md
open Go Go.Proofs
attribute [simp] stEl_some ldEl_some
theorem op_nilp {P : Program} {cfg : Cfg} {run : Run} (dst ty pos af g st x) : opD P cfg run ⟨dst, .nilCheck x, ty, pos, af, g⟩ st = (ev st.σ x).bind fun d => match d with | .ptr id ver i j => some (.ptr id ver i j, st.h) | .fptr z xs i j => some (.fptr z xs i j, st.h) | _ => none := by
  simp only [opD]; cases ev st.σ x with
  | none => rfl
  | some d => cases d <;> rfl
@[reducible] def encO (o : Ou) : D := .agg [I o.trap, I o.v.re, I o.v.im]
@[reducible] def encRf (o : Rf) : D := .agg [I o.ag, I o.gen]
@[reducible] def encSlt (s : Slt) : D := .agg [I s.state, I s.kid.ag, I s.kid.gen, I s.out.trap, I s.out.v.re, I s.out.v.im]
@[reducible] def frC (f : Fr) (S L Z : D) : D := .agg [I f.fn, I f.pc, S, L, Z, I f.seed, I f.spawned, I f.draws, I f.state, I f.wait, I f.out.trap, I f.out.v.re, I f.out.v.im, I f.up.ag, I f.up.gen, I f.upSlot]
@[reducible] def rnC (f : Fr) (S L Z P : D) (x : Instr) (c : Ac) (A : D) : D :=
  .agg [I f.fn, I f.pc, S, L, Z, I f.seed, I f.spawned, I f.draws, I f.state, I f.wait, I f.out.trap, I f.out.v.re, I f.out.v.im, I f.up.ag, I f.up.gen, I f.upSlot, P, I x.op, I x.a, I x.b, I c.kind, I c.fn, I c.slot, I c.seed, A]
/-- a slice that may be written and appended to -/
def IsS (H : List Ob) (z : Nat) (xs : List D) (d : D) : Prop :=
  (d = .snil ∧ xs = []) ∨ (d = .sl z [] true ∧ xs = []) ∨ ∃ id ver rest, d = .own z id ver 0 xs.length ∧ H[id]? = some ⟨ver, z, xs ++ rest, 0⟩
/-- its object -/
def At : D → Nat → Prop
  | .own _ id _ _ _, i => id = i
  | _, _ => False
@[simp] theorem at_snil (i) : ¬ At .snil i := id
@[simp] theorem at_sl (z xs t i) : ¬ At (.sl z xs t) i := id
@[simp] theorem at_own (z id v o l i) : At (.own z id v o l) i ↔ id = i := Iff.rfl
section
variable {H H' : List Ob} {z : Nat} {xs : List D} {d : D}
theorem IsS.one (h : IsS H z xs d) : d.one = true := by rcases h with ⟨rfl, _⟩ | ⟨rfl, _⟩ | ⟨id, ver, rest, rfl, _⟩ <;> simp
theorem IsS.cells (h : IsS H z xs d) : d.cells = [d] := by rcases h with ⟨rfl, _⟩ | ⟨rfl, _⟩ | ⟨id, ver, rest, rfl, _⟩ <;> simp
theorem IsS.len (h : IsS H z xs d) : lenS d = some xs.length := by rcases h with ⟨rfl, rfl⟩ | ⟨rfl, rfl⟩ | ⟨id, ver, rest, rfl, _⟩ <;> simp
theorem IsS.els (h : IsS H z xs d) : elsZ H z d = some xs := by
  rcases h with ⟨rfl, rfl⟩ | ⟨rfl, rfl⟩ | ⟨id, ver, rest, rfl, hh⟩
  · simp
  · simp
  · rw [elsZ_own, elsOf_own, hh, Option.bind_some, if_pos ⟨rfl, rfl, by simp⟩]; simp
theorem IsS.lt (h : IsS H z xs d) {i : Nat} (hi : At d i) : i < H.length := by
  rcases h with ⟨rfl, rfl⟩ | ⟨rfl, rfl⟩ | ⟨id, ver, rest, rfl, hh⟩
  · exact absurd hi (at_snil i)
  · exact absurd hi (at_sl _ _ _ i)
  · rw [at_own] at hi; subst hi; exact (List.getElem?_eq_some_iff.1 hh).1
theorem IsS.keep (h : IsS H z xs d) (hk : ∀ i, At d i → H'[i]? = H[i]?) : IsS H' z xs d := by
  rcases h with ⟨rfl, rfl⟩ | ⟨rfl, rfl⟩ | ⟨id, ver, rest, rfl, hh⟩
  · exact .inl ⟨rfl, rfl⟩
  · exact .inr (.inl ⟨rfl, rfl⟩)
  · exact .inr (.inr ⟨id, ver, rest, rfl, by rw [hk id rfl, hh]⟩)
theorem IsS.app (h : IsS H z xs d) (t : List Ob) : IsS (H ++ t) z xs d := h.keep fun i hi => get_lt (h.lt hi)
theorem IsS.set (h : IsS H z xs d) {r : Nat} (hr : ¬ At d r) (o : Ob) : IsS (H.set r o) z xs d := h.keep fun i hi => by
  rw [List.getElem?_set_ne]; rintro rfl; exact hr hi
theorem IsS.exp (h : IsS H z xs d) (hc : cleans xs = true) : ∃ o : Bool, exp1 H d = some (if o = true ∧ xs = [] then .snil else .sl z xs false) := by
  rcases h with ⟨rfl, rfl⟩ | ⟨rfl, rfl⟩ | ⟨id, ver, rest, rfl, hh⟩
  · exact ⟨true, by simp⟩
  · exact ⟨false, by simp⟩
  · refine ⟨false, ?_⟩
    rw [exp_own, elsOf_own, hh, Option.bind_some, if_pos ⟨rfl, rfl, by simp⟩]
    simp [ownK_clean _ _ _ hc]
end
theorem IsS.exp' {H : List Ob} {α : Type} {z : Nat} {e : α → D} {l : List α} {d : D} (h : IsS H z (l.map e) d) (hc : cleans (l.map e) = true) : ∃ o : Option (List α), exp1 H d = some (encL z e o) ∧ o.getD [] = l := by
  obtain ⟨b, hb⟩ := h.exp hc
  by_cases hq : b = true ∧ l.map e = []
  · rw [if_pos hq] at hb
    exact ⟨none, hb, by have := hq.2; simp at this; simp [this]⟩
  · rw [if_neg hq] at hb
    exact ⟨some l, hb, rfl⟩
theorem cl_vals : ∀ l : List Vl, cleans (l.map encV) = true
  | [] => rfl
  | x :: l => by simp [cl_vals l]
theorem cl_slts : ∀ l : List Slt, cleans (l.map encSlt) = true
  | [] => rfl
  | x :: l => by simp [cl_slts l]
theorem bq_vals : ∀ l : List Vl, beqs (l.map encV) (l.map encV) = true
  | [] => by simp
  | x :: l => by simp [bq_vals l]
theorem bq_slts : ∀ l : List Slt, beqs (l.map encSlt) (l.map encSlt) = true
  | [] => by simp
  | x :: l => by simp [bq_slts l]
/-- a copy of one's own -/
def Src (H : List Ob) (z : Nat) (xs : List D) (d : D) : Prop := (d = .snil ∧ xs = []) ∨ (∃ t, d = .sl z xs t) ∨ ∃ id ver off len, d = .own z id ver off len ∧ elsZ H z d = some xs
theorem clone_spec {H : List Ob} {d : D} {xs : List D} (h : Src H 2 xs d) (hl : xs.length * 16 ≤ 2 ^ 47) :
    ∃ d' t, body Try.prog R 82 [d] H = some (d', H ++ t) ∧ IsS (H ++ t) 2 xs d' ∧ (∀ i, At d' i → H.length ≤ i) ∧ (∀ i, At d' i → i < H.length + t.length) := by
  rw [body_eq Try.func82 rfl rfl]
  have ap : ∀ h : List Ob, xs ≠ [] → apK 16 2 h (D.sl 2 [] true) [] xs = some (.own 2 h.length 0 0 xs.length, h ++ [⟨0, 2, xs, 0⟩]) := by
    intro h hx
    have hne : xs.length ≠ 0 := fun e => hx (List.length_eq_zero_iff.1 e)
    rw [apK_ok (by simp only [List.length_nil]; omega), apN_sl' hne]; simp [newOb]
  have ap0 : ∀ h : List Ob, apK 16 2 h (D.sl 2 [] true) [] [] = some (.sl 2 [] true, h) := by
    intro h; rw [apK_ok (by simp), apN_nil]
  rcases h with ⟨rfl, rfl⟩ | ⟨t, rfl⟩ | ⟨id, ver, off, len, rfl, he⟩
  · exact ⟨.snil, [], by simp [argsσ, Vm.results, binD, scal, eqD], .inl ⟨rfl, rfl⟩, fun i hi => absurd hi (at_snil i), fun i hi => absurd hi (at_snil i)⟩
  · by_cases hx : xs = []
    · subst hx
      exact ⟨.sl 2 [] true, [], by simp [argsσ, Vm.results, binD, scal, eqD, ap0], .inr (.inl ⟨rfl, rfl⟩), fun i hi => absurd hi (at_sl _ _ _ i), fun i hi => absurd hi (at_sl _ _ _ i)⟩
    · refine ⟨.own 2 H.length 0 0 xs.length, [⟨0, 2, xs, 0⟩], by simp [argsσ, Vm.results, binD, scal, eqD, ap, hx], .inr (.inr ⟨H.length, 0, [], rfl, by simp⟩), fun i hi => ?_, fun i hi => ?_⟩ <;> (rw [at_own] at hi; subst hi; simp)
  · by_cases hx : xs = []
    · subst hx
      exact ⟨.sl 2 [] true, [], by simp [argsσ, Vm.results, binD, scal, eqD, ap0, he], .inr (.inl ⟨rfl, rfl⟩), fun i hi => absurd hi (at_sl _ _ _ i), fun i hi => absurd hi (at_sl _ _ _ i)⟩
    · refine ⟨.own 2 H.length 0 0 xs.length, [⟨0, 2, xs, 0⟩], by simp [argsσ, Vm.results, binD, scal, eqD, ap, hx, he], .inr (.inr ⟨H.length, 0, [], rfl, by simp⟩), fun i hi => ?_, fun i hi => ?_⟩ <;> (rw [at_own] at hi; subst hi; simp)
theorem clone6_spec {H : List Ob} {d : D} {xs : List D} (h : Src H 6 xs d) (hl : xs.length * 48 ≤ 2 ^ 47) :
    ∃ d' t, body Try.prog R 83 [d] H = some (d', H ++ t) ∧ IsS (H ++ t) 6 xs d' ∧ (∀ i, At d' i → H.length ≤ i) ∧ (∀ i, At d' i → i < H.length + t.length) := by
  rw [body_eq Try.func83 rfl rfl]
  have ap : ∀ h : List Ob, xs ≠ [] → apK 48 6 h (D.sl 6 [] true) [] xs = some (.own 6 h.length 0 0 xs.length, h ++ [⟨0, 6, xs, 0⟩]) := by
    intro h hx
    have hne : xs.length ≠ 0 := fun e => hx (List.length_eq_zero_iff.1 e)
    rw [apK_ok (by simp only [List.length_nil]; omega), apN_sl' hne]; simp [newOb]
  have ap0 : ∀ h : List Ob, apK 48 6 h (D.sl 6 [] true) [] [] = some (.sl 6 [] true, h) := by
    intro h; rw [apK_ok (by simp), apN_nil]
  rcases h with ⟨rfl, rfl⟩ | ⟨t, rfl⟩ | ⟨id, ver, off, len, rfl, he⟩
  · exact ⟨.snil, [], by simp [argsσ, Vm.results, binD, scal, eqD], .inl ⟨rfl, rfl⟩, fun i hi => absurd hi (at_snil i), fun i hi => absurd hi (at_snil i)⟩
  · by_cases hx : xs = []
    · subst hx
      exact ⟨.sl 6 [] true, [], by simp [argsσ, Vm.results, binD, scal, eqD, ap0], .inr (.inl ⟨rfl, rfl⟩), fun i hi => absurd hi (at_sl _ _ _ i), fun i hi => absurd hi (at_sl _ _ _ i)⟩
    · refine ⟨.own 6 H.length 0 0 xs.length, [⟨0, 6, xs, 0⟩], by simp [argsσ, Vm.results, binD, scal, eqD, ap, hx], .inr (.inr ⟨H.length, 0, [], rfl, by simp⟩), fun i hi => ?_, fun i hi => ?_⟩ <;> (rw [at_own] at hi; subst hi; simp)
  · by_cases hx : xs = []
    · subst hx
      exact ⟨.sl 6 [] true, [], by simp [argsσ, Vm.results, binD, scal, eqD, ap0, he], .inr (.inl ⟨rfl, rfl⟩), fun i hi => absurd hi (at_sl _ _ _ i), fun i hi => absurd hi (at_sl _ _ _ i)⟩
    · refine ⟨.own 6 H.length 0 0 xs.length, [⟨0, 6, xs, 0⟩], by simp [argsσ, Vm.results, binD, scal, eqD, ap, hx, he], .inr (.inr ⟨H.length, 0, [], rfl, by simp⟩), fun i hi => ?_, fun i hi => ?_⟩ <;> (rw [at_own] at hi; subst hi; simp)
/-- a frame, in memory of its own -/
theorem cloneF_spec (f : Fr) {S L Z : D} {H : List Ob} (hS : Src [] 2 (f.stack.map encV) S) (hL : Src [] 2 (f.locals.map encV) L) (hZ : Src [] 6 (f.slots.map encSlt) Z)
    (h1 : f.stack.length ≤ 2 ^ 40) (h2 : f.locals.length ≤ 2 ^ 40) (h3 : f.slots.length ≤ 2 ^ 40) :
    ∃ S' L' Z' t, body Try.prog R 56 [frC f S L Z] H = some (frC f S' L' Z', H ++ t) ∧ IsS (H ++ t) 2 (f.stack.map encV) S' ∧ IsS (H ++ t) 2 (f.locals.map encV) L' ∧ IsS (H ++ t) 6 (f.slots.map encSlt) Z' ∧
      (∀ i, At S' i → ¬ At L' i) ∧ (∀ i, At S' i → ¬ At Z' i) ∧ (∀ i, At L' i → ¬ At Z' i) ∧ (∀ i, At S' i ∨ At L' i ∨ At Z' i → H.length ≤ i) := by
  have sr : ∀ (z : Nat) (xs : List D) (d : D) (H : List Ob), Src [] z xs d → Src H z xs d := by
    intro z xs d H h
    rcases h with h | h | ⟨id, ver, off, len, rfl, he⟩
    · exact .inl h
    · exact .inr (.inl h)
    · simp [elsZ_own, elsOf_own] at he
  have s1 : ∀ {H : List Ob} {z xs d}, Src H z xs d → d.one = true := by
    intro H z xs d h
    rcases h with ⟨rfl, _⟩ | ⟨t, rfl⟩ | ⟨id, ver, off, len, rfl, he⟩ <;> simp
  have o1 := s1 hS; have o2 := s1 hL; have o3 := s1 hZ
  have sb : ∀ {z : Nat} {xs : List D} {d : D}, Src [] z xs d → beqs xs xs = true → beq d d = true := by
    intro z xs d h hq
    rcases h with ⟨rfl, _⟩ | ⟨t, rfl⟩ | ⟨id, ver, off, len, rfl, he⟩
    · simp
    · simp [hq]
    · simp [elsZ_own, elsOf_own] at he
  have q2 := sb hL (bq_vals _); have q3 := sb hZ (bq_slts _)
  obtain ⟨a, ha⟩ : ∃ a : Ob, a = ⟨0, 16, [frC f S L Z], 0⟩ := ⟨_, rfl⟩
  obtain ⟨b, hb⟩ : ∃ b : Ob, b = ⟨0, 16, [.agg [I 0, I 0, .snil, .snil, .snil, I 0, I 0, I 0, I 0, I 0, I 0, I 0, I 0, I 0, I 0, I 0]], 0⟩ := ⟨_, rfl⟩
  obtain ⟨S', t1, e1, i1, g1, l1⟩ := clone_spec (H := H ++ [a, b]) (sr _ _ _ _ hS) (by simp; omega)
  obtain ⟨L', t2, e2, i2, g2, l2⟩ := clone_spec (H := H ++ a :: b :: t1) (sr _ _ _ _ hL) (by simp; omega)
  obtain ⟨Z', t3, e3, i3, g3, l3⟩ := clone6_spec (H := H ++ a :: b :: (t1 ++ t2)) (sr _ _ _ _ hZ) (by simp; omega)
  have n1 := i1.one; have n2 := i2.one; have n3 := i3.one
  have c1 := i1.cells; have c2 := i2.cells; have c3 := i3.cells
  simp only [List.append_assoc, List.cons_append, List.nil_append] at e1 e2 e3 i1 i2 i3
  simp only [List.length_append, List.length_cons, List.length_nil] at g1 g2 g3 l1 l2 l3
  refine ⟨S', L', Z', ⟨0, 16, [frC f S' L' Z'], 0⟩ :: ⟨0, 16, [frC f S' L' Z'], 0⟩ :: (t1 ++ (t2 ++ t3)), ?_, ?_, ?_, ?_, ?_, ?_, ?_, ?_⟩
  · subst ha hb
    have hd := dr56_1
    simp [opsAt, opsIn, Try.f56] at hd
    have hdw := Wdraw hd
    clear hd
    rw [body_eq Try.func56 rfl rfl]
    simp [argsσ, Vm.results, hdw, o1, o2, o3, e1, e2, e3, n1, n2, n3, c1, c2, c3, q2, q3, logL, loud, isE, drawChk]
  · refine i1.keep fun i hi => ?_
    have := g1 i hi; have := l1 i hi
    obtain ⟨k, rfl⟩ : ∃ k, i = H.length + (k + 2) := ⟨i - H.length - 2, by omega⟩
    rw [get_app rfl, get_app rfl]
    simp only [List.getElem?_cons_succ]
    rw [List.getElem?_append_left (by omega)]
  · refine i2.keep fun i hi => ?_
    have := g2 i hi; have := l2 i hi
    obtain ⟨k, rfl⟩ : ∃ k, i = H.length + (k + 2) := ⟨i - H.length - 2, by omega⟩
    rw [get_app rfl, get_app rfl]
    simp only [List.getElem?_cons_succ]
    rw [← List.append_assoc, List.getElem?_append_left (by simp; omega)]
  · refine i3.keep fun i hi => ?_
    have := g3 i hi; have := l3 i hi
    obtain ⟨k, rfl⟩ : ∃ k, i = H.length + (k + 2) := ⟨i - H.length - 2, by omega⟩
    rw [get_app rfl, get_app rfl]
    simp only [List.getElem?_cons_succ]
  · intro i h1 h2; have := l1 i h1; have := g2 i h2; omega
  · intro i h1 h2; have := l1 i h1; have := g3 i h2; omega
  · intro i h1 h2; have := l2 i h1; have := g3 i h2; omega
  · rintro i (h1 | h1 | h1)
    · have := g1 i h1; omega
    · have := g2 i h1; omega
    · have := g3 i h1; omega
end Go.Proofs.YtlpadffinfijgaaW.Rg
set_option linter.unusedVariables false
set_option linter.unusedSimpArgs false
namespace Go.Proofs.YtlpadffinfijgaaW.Rg
open Go.Proofs.YtlpadffinfijgaaW.Vm Go.Proofs.YtlpadffinfijgaaW.Md
open Go Go.Proofs
theorem gs0 {H : List Ob} {r : Nat} (h : r < H.length) (o : Ob) : (H.set r o)[r]? = some o := List.getElem?_set_self h
theorem gsA {H : List Ob} {r : Nat} (h : r < H.length) (o : Ob) (t : List Ob) : (H.set r o ++ t)[r]? = some o := by rw [get_lt (by simpa using h), gs0 h]
theorem stA {H : List Ob} {r : Nat} (h : r < H.length) (o : Ob) (t : List Ob) : (H ++ t).set r o = H.set r o ++ t := set_lt h o
theorem ssA {H : List Ob} {r : Nat} (h : r < H.length) (o o' : Ob) (t : List Ob) : (H.set r o ++ t).set r o' = H.set r o' ++ t := by rw [set_lt (by simpa using h), List.set_set]
/-- a runner in memory -/
structure Rn (B H : List Ob) (r : Nat) (f : Fr) (P : D) (x : Instr) (c : Ac) (S L Z A : D) : Prop where
  o : H[r]? = some ⟨0, 25, [rnC f S L Z P x c A], 0⟩
  s : IsS H 2 (f.stack.map encV) S
  l : IsS H 2 (f.locals.map encV) L
  z : IsS H 6 (f.slots.map encSlt) Z
  a : IsS H 2 (c.args.map encV) A
  rs : ¬ At S r
  rl : ¬ At L r
  rz : ¬ At Z r
  ra : ¬ At A r
  sl : ∀ i, At S i → ¬ At L i
  sz : ∀ i, At S i → ¬ At Z i
  sa : ∀ i, At S i → ¬ At A i
  lz : ∀ i, At L i → ¬ At Z i
  la : ∀ i, At L i → ¬ At A i
  za : ∀ i, At Z i → ¬ At A i
  pre : ∀ i, i < B.length → H[i]? = B[i]?
  br : B.length ≤ r
  bs : ∀ i, At S i → B.length ≤ i
  bl : ∀ i, At L i → B.length ≤ i
  bz : ∀ i, At Z i → B.length ≤ i
  ba : ∀ i, At A i → B.length ≤ i
section
variable {B H : List Ob} {r : Nat} {f : Fr} {P : D} {x : Instr} {c : Ac} {S L Z A : D}
theorem Rn.lt (h : Rn B H r f P x c S L Z A) : r < H.length := get_some_lt' h.o
where get_some_lt' {α : Type} {l : List α} {i : Nat} {x : α} (h : l[i]? = some x) : i < l.length := (List.getElem?_eq_some_iff.1 h).1
theorem Rn.get (h : Rn B H r f P x c S L Z A) (t : List Ob) : (H ++ t)[r]? = some ⟨0, 25, [rnC f S L Z P x c A], 0⟩ := by rw [get_lt h.lt, h.o]
theorem Rn.app (h : Rn B H r f P x c S L Z A) (t : List Ob) : Rn B (H ++ t) r f P x c S L Z A :=
  ⟨h.get t, h.s.app t, h.l.app t, h.z.app t, h.a.app t, h.rs, h.rl, h.rz, h.ra, h.sl, h.sz, h.sa, h.lz, h.la, h.za, fun i hi => by rw [get_lt (by have := h.br; have := h.lt; omega)]; exact h.pre i hi, h.br, h.bs, h.bl, h.bz, h.ba⟩
/-- other numbers, the same lists -/
theorem Rn.upd (h : Rn B H r f P x c S L Z A) (f' : Fr) (x' : Instr) (c' : Ac) (A' : D) (h1 : f'.stack = f.stack) (h2 : f'.locals = f.locals) (h3 : f'.slots = f.slots) (hA : A' = .snil ∧ c'.args = [] ∨ A' = A ∧ c'.args = c.args) :
    Rn B (H.set r ⟨0, 25, [rnC f' S L Z P x' c' A'], 0⟩) r f' P x' c' S L Z A' := by
  refine ⟨List.getElem?_set_self h.lt, by rw [h1]; exact h.s.set h.rs _, by rw [h2]; exact h.l.set h.rl _, by rw [h3]; exact h.z.set h.rz _, ?_, h.rs, h.rl, h.rz, ?_, h.sl, h.sz, ?_, h.lz, ?_, ?_, fun i hi => by rw [List.getElem?_set_ne (by have := h.br; omega)]; exact h.pre i hi, h.br, h.bs, h.bl, h.bz, ?_⟩
  · rcases hA with ⟨rfl, e⟩ | ⟨rfl, e⟩
    · exact .inl ⟨rfl, by rw [e]; rfl⟩
    · rw [e]; exact h.a.set h.ra _
  · rcases hA with ⟨rfl, e⟩ | ⟨rfl, e⟩
    · exact at_snil r
    · exact h.ra
  · rcases hA with ⟨rfl, e⟩ | ⟨rfl, e⟩
    · exact fun i _ => at_snil i
    · exact h.sa
  · rcases hA with ⟨rfl, e⟩ | ⟨rfl, e⟩
    · exact fun i _ => at_snil i
    · exact h.la
  · rcases hA with ⟨rfl, e⟩ | ⟨rfl, e⟩
    · exact fun i _ => at_snil i
    · exact h.za
  · rcases hA with ⟨rfl, e⟩ | ⟨rfl, e⟩
    · exact fun i hi => absurd hi (at_snil i)
    · exact h.ba
theorem end_spec (h : Rn B H r f P x c S L Z A) (o : Ou) : ∃ H', body Try.prog R 60 [.ptr r 0 0 0, encO o] H = some (.tup [], H') ∧ Rn B H' r { f with state := 2, out := o } P x (acN 4) S L Z .snil := by
  have hg := h.get
  have hn := h.lt
  refine ⟨(H.set r ⟨0, 25, [rnC { f with state := 2, out := o } S L Z P x (acN 4) .snil], 0⟩) ++ [⟨0, 3, [encO o], 0⟩], ?_, (h.upd { f with state := 2, out := o } x (acN 4) .snil rfl rfl rfl (.inl ⟨rfl, rfl⟩)).app _⟩
  have hd := dr60_1
  simp [opsAt, opsIn, Try.f60] at hd
  have hdw := Wdraw hd
  clear hd
  rw [body_eq Try.func60 rfl rfl]
  simp [argsσ, Vm.results, hdw, hg, hn, gs0 hn, gsA hn, stA hn, ssA hn, op_nilp, -getElem?_pos, logL, loud, isE, drawChk, acN]
theorem trap_spec (h : Rn B H r f P x c S L Z A) (k : Int) : ∃ H', body Try.prog R 58 [.ptr r 0 0 0, I k] H = some (.tup [], H') ∧ Rn B H' r (trapF f k).1 P x (acN 4) S L Z .snil := by
  obtain ⟨H', e, h'⟩ := end_spec h ⟨k, v0⟩
  refine ⟨H', ?_, h'⟩
  rw [show encO ⟨k, v0⟩ = .agg [I k, I 0, I 0] from rfl] at e
  rw [body_eq Try.func58 rfl rfl]
  simp [argsσ, Vm.results, e]
/-- other stack, the rest as it was -/
theorem Rn.restack (h : Rn B H r f P x c S L Z A) {H' : List Ob} (f' : Fr) (S' : D) (t : List Ob) (h2 : f'.locals = f.locals) (h3 : f'.slots = f.slots) (hH : H'.length = H.length) (hH2 : ∀ i, i ≠ r → ¬ At S i → H'[i]? = H[i]?) (ho : H'[r]? = some ⟨0, 25, [rnC f' S' L Z P x c A], 0⟩)
    (hs : IsS (H' ++ t) 2 (f'.stack.map encV) S') (ha : ∀ i, At S' i → At S i ∨ H.length ≤ i) : Rn B (H' ++ t) r f' P x c S' L Z A := by
  have hlt := h.lt
  have k : ∀ {z xs d}, IsS H z xs d → ¬ At d r → (∀ i, At S i → ¬ At d i) → IsS (H' ++ t) z xs d := by
    intro z xs d hd h1 h4
    refine hd.keep fun i hi => ?_
    have := hd.lt hi
    rw [get_lt (by omega)]
    exact hH2 i (by rintro rfl; exact h1 hi) (fun h5 => h4 i h5 hi)
  have n : ∀ {z xs d}, IsS H z xs d → (∀ i, At S i → ¬ At d i) → ∀ i, At S' i → ¬ At d i := by
    intro z xs d hd h4 i hi hj
    rcases ha i hi with h5 | h5
    · exact h4 i h5 hj
    · have := hd.lt hj; omega
  refine ⟨by rw [get_lt (by omega), ho], hs, by rw [h2]; exact k h.l h.rl h.sl, by rw [h3]; exact k h.z h.rz h.sz, k h.a h.ra h.sa, ?_, h.rl, h.rz, h.ra, n h.l h.sl, n h.z h.sz, n h.a h.sa, h.lz, h.la, h.za, fun i hi => by rw [get_lt (by have := h.br; omega), hH2 i (by have := h.br; omega) (fun h5 => by have := h.bs i h5; omega)]; exact h.pre i hi, h.br, fun i hi => by
    rcases ha i hi with h5 | h5
    · exact h.bs i h5
    · have := h.br; omega, h.bl, h.bz, h.ba⟩
  intro hr
  rcases ha r hr with h5 | h5
  · exact h.rs h5
  · omega
theorem pop_spec (h : Rn B H r f P x c S L Z A) (n : Nat) (hn : n ≤ f.stack.length) (hl : f.stack.length ≤ 2 ^ 40) : ∃ H' S' d, body Try.prog R 61 [.ptr r 0 0 0, I n] H = some (d, H') ∧ Rn B H' r (popF f n) P x c S' L Z A ∧
    IsS H' 2 ((topV f n).map encV) d ∧ (∀ i, At d i → H.length ≤ i) ∧ (∀ i, At S' i → At S i) := by
  have hg := h.get; have ho := h.o; have hlt := h.lt
  have hw : IntKind.i64.wrap ((f.stack.length : Int) - n) = ((f.stack.length - n : Nat) : Int) := by rw [wr (by omega) (by omega)]; omega
  have hrs := h.rs
  have hlen : (f.stack.map encV).length = f.stack.length := by simp
  have hb : bndD f.stack.length 0 (some (I ((f.stack.length - n : Nat) : Int))) = some (f.stack.length - n) := by
    simp only [bndD]; rw [if_pos (by omega)]; simp
  have hb2 : ∀ k, bndD f.stack.length k (some (I ((f.stack.length - n : Nat) : Int))) = some (f.stack.length - n) := by
    intro k; simp only [bndD]; rw [if_pos (by omega)]; simp
  have hsub : f.stack.length - (f.stack.length - n) = n := by omega
  have hnd : n ≤ 2 ^ 40 := by omega
  generalize hm : f.stack.length - n = m at *
  have hml : m ≤ f.stack.length := by omega
  have cs := h.s
  rcases cs with ⟨rfl, hx⟩ | ⟨rfl, hx⟩ | ⟨id, ver, rest, rfl, hh⟩
  · have hx : f.stack = [] := by simpa using hx
    obtain ⟨d', t, e, i1, g1, l1⟩ := clone_spec (H := H) (d := .snil) (xs := []) (.inl ⟨rfl, rfl⟩) (by simp)
    have hm0 : m = 0 := by rw [hx] at hml; simpa using hml
    have e1 : popF f n = f := by unfold popF; rw [hx]; simp; rw [← hx]
    have e2 : topV f n = [] := by unfold topV; rw [hx]; simp
    rw [e1, e2]
    have hn0 : n = 0 := by rw [hx] at hn; simpa using hn
    have hz : IntKind.i64.wrap 0 = 0 := by decide
    subst hn0
    refine ⟨(H.set r ⟨0, 25, [rnC f .snil L Z P x c A], 0⟩) ++ t, .snil, d', ?_, ((h.upd f x c A rfl rfl rfl (.inr ⟨rfl, rfl⟩)).app t), ?_, fun i hi => g1 i hi, fun i hi => hi⟩
    · have hself : H.set r ⟨0, 25, [rnC f .snil L Z P x c A], 0⟩ = H := by
        have := List.getElem?_eq_some_iff.1 ho
        rw [← this.2, List.set_getElem_self]
      rw [body_eq Try.func61 rfl rfl]
      simp [argsσ, Vm.results, hg, ho, hlt, gs0 hlt, gsA hlt, stA hlt, ssA hlt, op_nilp, -getElem?_pos, hz, sliceD, bndD, e, hself]
    · refine i1.keep fun i hi => ?_
      have g2 := g1 i hi
      obtain ⟨k, rfl⟩ : ∃ k, i = H.length + k := ⟨i - H.length, by omega⟩
      rw [get_app rfl, get_app (by simp)]
  · have hx : f.stack = [] := by simpa using hx
    obtain ⟨d', t, e, i1, g1, l1⟩ := clone_spec (H := H) (d := .sl 2 [] true) (xs := []) (.inr (.inl ⟨true, rfl⟩)) (by simp)
    have hm0 : m = 0 := by rw [hx] at hml; simpa using hml
    have e1 : popF f n = f := by unfold popF; rw [hx]; simp; rw [← hx]
    have e2 : topV f n = [] := by unfold topV; rw [hx]; simp
    rw [e1, e2]
    have hn0 : n = 0 := by rw [hx] at hn; simpa using hn
    have hz : IntKind.i64.wrap 0 = 0 := by decide
    subst hn0
    refine ⟨(H.set r ⟨0, 25, [rnC f (.sl 2 [] true) L Z P x c A], 0⟩) ++ t, .sl 2 [] true, d', ?_, ((h.upd f x c A rfl rfl rfl (.inr ⟨rfl, rfl⟩)).app t), ?_, fun i hi => g1 i hi, fun i hi => hi⟩
    · have hself : H.set r ⟨0, 25, [rnC f (.sl 2 [] true) L Z P x c A], 0⟩ = H := by
        have := List.getElem?_eq_some_iff.1 ho
        rw [← this.2, List.set_getElem_self]
      rw [body_eq Try.func61 rfl rfl]
      simp [argsσ, Vm.results, hg, ho, hlt, gs0 hlt, gsA hlt, stA hlt, ssA hlt, op_nilp, -getElem?_pos, hz, sliceD, bndD, e, hself]
    · refine i1.keep fun i hi => ?_
      have g2 := g1 i hi
      obtain ⟨k, rfl⟩ : ∃ k, i = H.length + k := ⟨i - H.length, by omega⟩
      rw [get_app rfl, get_app (by simp)]
  · rw [hlen] at *
    rw [at_own] at hrs
    have hel : elsZ H 2 (.own 2 id ver m n) = some ((topV f n).map encV) := by
      rw [elsZ_own, elsOf_own, hh, Option.bind_some, if_pos ⟨rfl, rfl, by simp; omega⟩]
      simp only
      rw [List.drop_append_of_le_length (by simp; omega), List.take_append_of_le_length (by simp; omega), List.take_of_length_le (by simp; omega)]
      unfold topV
      rw [hm, List.map_drop]
    obtain ⟨d', t, e, i1, g1, l1⟩ := clone_spec (H := H) (d := .own 2 id ver m n) (xs := (topV f n).map encV) (.inr (.inr ⟨id, ver, m, n, rfl, hel⟩)) (by unfold topV; simp; omega)
    have ho' : (H.set r ⟨0, 25, [rnC (popF f n) (.own 2 id ver 0 m) L Z P x c A], 0⟩)[id]? = some ⟨ver, 2, f.stack.map encV ++ rest, 0⟩ := by
      rw [List.getElem?_set_ne (fun e => hrs e.symm), hh]
    refine ⟨(H.set r ⟨0, 25, [rnC (popF f n) (.own 2 id ver 0 m) L Z P x c A], 0⟩) ++ t, .own 2 id ver 0 m, d', ?_, h.restack _ _ t rfl rfl (by simp) (fun i h1 h2 => List.getElem?_set_ne (Ne.symm h1)) (List.getElem?_set_self hlt) ?_ (fun i hi => .inl hi), ?_, fun i hi => g1 i hi, fun i hi => hi⟩
    · have hbm : ∀ k, bndD m k none = some k := fun k => rfl
      have hb3 : bndD f.stack.length 0 (some (D.int .i64 (m : Int))) = some m := hb2 0
      have hb4 : bndD f.stack.length f.stack.length (some (D.int .i64 (m : Int))) = some m := hb2 _
      have sl1 : ∀ h : List Ob, sliceD Try.prog h 24 (.own 2 id ver 0 f.stack.length) (some (D.int .i64 (m : Int))) none none = some (.own 2 id ver m n, h) := by
        intro h
        simp only [sliceD, un24, show ∀ a b, bndD a b none = some b from fun _ _ => rfl, hb3, sz30]
        simp [hsub]
      have sl2 : ∀ h : List Ob, sliceD Try.prog h 24 (.own 2 id ver 0 f.stack.length) none (some (D.int .i64 (m : Int))) none = some (.own 2 id ver 0 m, h) := by
        intro h
        simp only [sliceD, un24, show ∀ a b, bndD a b none = some b from fun _ _ => rfl, hb4, sz30]
        simp [hml]
      rw [body_eq Try.func61 rfl rfl]
      simp [argsσ, Vm.results, hg, ho, hlt, gs0 hlt, gsA hlt, stA hlt, ssA hlt, op_nilp, -getElem?_pos, hw, sl1, sl2, e]
      rfl
    · refine .inr (.inr ⟨id, ver, f.stack.map encV |>.drop m |>.append rest, by unfold popF; simp only [hm]; simp; omega, ?_⟩)
      have hid := (List.getElem?_eq_some_iff.1 hh).1
      have el : f.stack.map encV ++ rest = (popF f n).stack.map encV ++ ((f.stack.map encV).drop m).append rest := by
        unfold popF
        simp only [hm]
        rw [show ((f.stack.map encV).drop m).append rest = (f.stack.map encV).drop m ++ rest from rfl, ← List.append_assoc, List.map_take, List.take_append_drop]
      rw [get_lt (by simp; exact hid), ho', el]
    · refine i1.keep fun i hi => ?_
      have g2 := g1 i hi
      obtain ⟨k, rfl⟩ : ∃ k, i = H.length + k := ⟨i - H.length, by omega⟩
      rw [get_app rfl, get_app (by simp)]
end
end Go.Proofs.YtlpadffinfijgaaW.Rg
set_option linter.unusedVariables false
set_option linter.unusedSimpArgs false
namespace Go.Proofs.YtlpadffinfijgaaW.Rg
open Go.Proofs.YtlpadffinfijgaaW.Vm Go.Proofs.YtlpadffinfijgaaW.Md
open Go Go.Proofs
section
variable {B H : List Ob} {r : Nat} {f : Fr} {P : D} {x : Instr} {c : Ac} {S L Z A : D}
theorem push_spec (h : Rn B H r f P x c S L Z A) (vs : List Vl) (d : D) (hd : elsZ H 2 d = some (vs.map encV)) (hv : vs ≠ []) (hl : f.stack.length ≤ 2 ^ 40) (hvl : vs.length ≤ 2 ^ 40) :
    ∃ H' S', body Try.prog R 87 [.ptr r 0 0 0, d] H = some (.tup [], H') ∧ Rn B H' r (pushF f vs) P x c S' L Z A := by
  have hg := h.get; have ho := h.o; have hlt := h.lt
  have hrs := h.rs
  have hlen : (f.stack.map encV).length = f.stack.length := by simp
  have hvn : (vs.map encV).length ≠ 0 := by intro e; apply hv; simpa using e
  have hne : vs.length ≠ 0 := by simpa using hvn
  have cs := h.s
  have es := h.s.els
  have ao : ∀ h : List Ob, apK 16 2 h S (f.stack.map encV) (vs.map encV) = apN 2 h S (f.stack.map encV) (vs.map encV) := fun h => apK_ok (by simp; omega)
  rcases cs with ⟨rfl, hx⟩ | ⟨rfl, hx⟩ | ⟨id, ver, rest, rfl, hh⟩
  · have hx : f.stack = [] := by simpa using hx
    have e1 : pushF f vs = { f with stack := vs } := by unfold pushF; rw [hx]; rfl
    have ap : ∀ h : List Ob, apN 2 h .snil [] (vs.map encV) = some (.own 2 h.length 0 0 vs.length, h ++ [⟨0, 2, vs.map encV, 0⟩]) := by
      intro h; rw [apN_snil' hvn]; simp [newOb]
    rw [hx] at ao
    simp only [List.map_nil] at ao
    rw [e1]
    refine ⟨(H.set r ⟨0, 25, [rnC { f with stack := vs } (.own 2 H.length 0 0 vs.length) L Z P x c A], 0⟩) ++ [⟨0, 2, vs.map encV, 0⟩], .own 2 H.length 0 0 vs.length, ?_,
      h.restack _ _ _ rfl rfl (by simp) (fun i h1 h2 => List.getElem?_set_ne (Ne.symm h1)) (gs0 hlt _) (.inr (.inr ⟨H.length, 0, [], by simp, by simp⟩)) (fun i hi => .inr (by rw [at_own] at hi; omega))⟩
    rw [body_eq Try.func87 rfl rfl]
    simp [argsσ, Vm.results, hg, ho, hlt, gs0 hlt, gsA hlt, stA hlt, ssA hlt, op_nilp, -getElem?_pos, hd, ao, ap]
  · have hx : f.stack = [] := by simpa using hx
    have e1 : pushF f vs = { f with stack := vs } := by unfold pushF; rw [hx]; rfl
    have ap : ∀ h : List Ob, apN 2 h (.sl 2 [] true) [] (vs.map encV) = some (.own 2 h.length 0 0 vs.length, h ++ [⟨0, 2, vs.map encV, 0⟩]) := by
      intro h; rw [apN_sl' hvn]; simp [newOb]
    rw [hx] at ao
    simp only [List.map_nil] at ao
    rw [e1]
    refine ⟨(H.set r ⟨0, 25, [rnC { f with stack := vs } (.own 2 H.length 0 0 vs.length) L Z P x c A], 0⟩) ++ [⟨0, 2, vs.map encV, 0⟩], .own 2 H.length 0 0 vs.length, ?_,
      h.restack _ _ _ rfl rfl (by simp) (fun i h1 h2 => List.getElem?_set_ne (Ne.symm h1)) (gs0 hlt _) (.inr (.inr ⟨H.length, 0, [], by simp, by simp⟩)) (fun i hi => .inr (by rw [at_own] at hi; omega))⟩
    rw [body_eq Try.func87 rfl rfl]
    simp [argsσ, Vm.results, hg, ho, hlt, gs0 hlt, gsA hlt, stA hlt, ssA hlt, op_nilp, -getElem?_pos, hd, ao, ap]
  · rw [hlen] at *
    rw [at_own] at hrs
    have hid := (List.getElem?_eq_some_iff.1 hh).1
    have ap : apN 2 H (.own 2 id ver 0 f.stack.length) (f.stack.map encV) (vs.map encV) = some (.own 2 id (ver + 1) 0 (f.stack.length + vs.length), H.set id ⟨ver + 1, 2, f.stack.map encV ++ vs.map encV, 0⟩) := by
      rw [apN_own' hvn, hh, Option.bind_some, if_pos (by simp)]; simp
    have hr2 : (H.set id ⟨ver + 1, 2, f.stack.map encV ++ vs.map encV, 0⟩)[r]? = some ⟨0, 25, [rnC f (.own 2 id ver 0 f.stack.length) L Z P x c A], 0⟩ := by
      rw [List.getElem?_set_ne hrs, ho]
    have hlt2 : r < (H.set id ⟨ver + 1, 2, f.stack.map encV ++ vs.map encV, 0⟩).length := by simpa using hlt
    have R1 := h.restack (H' := (H.set id ⟨ver + 1, 2, f.stack.map encV ++ vs.map encV, 0⟩).set r ⟨0, 25, [rnC (pushF f vs) (.own 2 id (ver + 1) 0 (f.stack.length + vs.length)) L Z P x c A], 0⟩) (pushF f vs) (.own 2 id (ver + 1) 0 (f.stack.length + vs.length)) [] rfl rfl (by simp)
      (fun i h1 h2 => by rw [List.getElem?_set_ne (Ne.symm h1), List.getElem?_set_ne (by rw [at_own] at h2; exact h2)]) (gs0 hlt2 _)
      (.inr (.inr ⟨id, ver + 1, [], by unfold pushF; simp, by rw [List.append_nil, List.getElem?_set_ne (Ne.symm hrs), List.getElem?_set_self hid]; unfold pushF; simp⟩)) (fun i hi => .inl (by rw [at_own] at hi ⊢; exact hi))
    rw [List.append_nil] at R1
    refine ⟨_, _, ?_, R1⟩
    generalize hG : H.set id ⟨ver + 1, 2, f.stack.map encV ++ vs.map encV, 0⟩ = G at *
    rw [body_eq Try.func87 rfl rfl]
    simp [argsσ, Vm.results, hg, ho, hr2, hlt2, gs0 hlt2, op_nilp, -getElem?_pos, hd, ao, ap, es, pushF]
theorem Rn.sOne (h : Rn B H r f P x c S L Z A) : lenS S = some f.stack.length ∧ lenS L = some f.locals.length ∧ lenS Z = some f.slots.length := ⟨by rw [h.s.len]; simp, by rw [h.l.len]; simp, by rw [h.z.len]; simp⟩
theorem off_spec' (p : Option (List Fu)) (h : Rn B H r f (encProg p) x c S L Z A) (hx : imay x = true) (h13 : x.op = 13 → x.a < (p.getD []).length) :
    body Try.prog R 85 [.ptr r 0 0 0] H = some (I (offP (p.getD []) x), H) := by
  have ho := h.o; have hlt := h.lt
  have hi := imay_iff.1 hx
  have hS := stack_spec x.op ⟨by omega, by omega⟩
  have hd := dr85_2
  simp [opsAt, opsIn, Try.f85] at hd
  have hdw := Wdraw0 hd
  clear hd
  rw [body_eq Try.func85 rfl rfl]
  cases c1 : decide (x.op = 13)
  · have e : offP (p.getD []) x = off6 x.op := by unfold offP; rw [if_neg (of_decide_eq_false c1)]
    rw [e]
    simp [argsσ, Vm.results, ho, c1, hS, op_nilp, -getElem?_pos]
  · have h13' := of_decide_eq_true c1
    have h2 := h13 h13'
    have h3 : 0 ≤ x.a := by have := hi; unfold leastA at this; rw [if_neg (by omega)] at this; omega
    obtain ⟨m, hm⟩ : ∃ m : Nat, x.a = m := ⟨x.a.toNat, by omega⟩
    have hlt2 : m < (p.getD []).length := by omega
    have hix := idxD_nat .i64 hlt2
    have hg : (p.getD [])[m]? = some (p.getD [])[m] := List.getElem?_eq_getElem hlt2
    have e : offP (p.getD []) x = ((p.getD [])[m]).arity := by unfold offP; rw [if_pos h13', hm]; simp [hg]
    rw [e]
    generalize (p.getD [])[m] = f2 at hg
    simp [argsσ, Vm.results, ho, op_nilp, c1, hdw, hm, hix, hg, -getElem?_pos]
theorem room_spec (p : Option (List Fu)) (h : Rn B H r f (encProg p) x c S L Z A) (hx : imay x = true) (h13 : x.op = 13 → x.a < (p.getD []).length) (hl : f.stack.length ≤ 2 ^ 40) :
    body Try.prog R 59 [.ptr r 0 0 0] H = some (.bool (roomX (p.getD []) f x), H) := by
  have ho := h.o; have hlt := h.lt
  have hi := imay_iff.1 hx
  have hS := stack_spec x.op ⟨by omega, by omega⟩
  have hO := off_spec' p h hx h13
  have hn := on6_le x.op
  obtain ⟨l1, _, _⟩ := h.sOne
  rw [body_eq Try.func59 rfl rfl]
  unfold roomX
  generalize offP (p.getD []) x = o at *
  generalize hN : on6 x.op = N at *
  cases c1 : decide (0 ≤ o)
  · simp [argsσ, Vm.results, ho, c1, hS, hO, op_nilp, -getElem?_pos]
  cases c2 : decide (o ≤ f.stack.length)
  · simp [argsσ, Vm.results, ho, c1, c2, hS, hO, l1, op_nilp, -getElem?_pos]
  cases c3 : decide (N = 0)
  · have q1 := of_decide_eq_true c1; have q2 := of_decide_eq_true c2
    have w1 : IntKind.i64.wrap ((f.stack.length : Int) - o) = (f.stack.length : Int) - o := wr (by omega) (by omega)
    have w2 : IntKind.i64.wrap ((f.stack.length : Int) - o + N) = (f.stack.length : Int) - o + N := wr (by omega) (by omega)
    simp [argsσ, Vm.results, ho, c1, c2, c3, hS, hO, l1, op_nilp, w1, w2, -getElem?_pos]
  · simp [argsσ, Vm.results, ho, c1, c2, c3, hS, hO, l1, op_nilp, -getElem?_pos]
end
end Go.Proofs.YtlpadffinfijgaaW.Rg
