/- Pens in memory of one's own. No conditions. -/
import Derived.Test.YtopgmnjijioheaaVmP3
set_option linter.unusedVariables false
set_option linter.unusedSimpArgs false
namespace Go.Proofs.YtopgmnjijioheaaW.Rg
open Go.Proofs.YtopgmnjijioheaaW.Vm Go.Proofs.YtopgmnjijioheaaW.Md
open Go Go.Proofs
theorem clone18_spec {H : List Ob} {d : D} {xs : List D} (h : Src H 18 xs d) (hl : xs.length * 192 ≤ 2 ^ 47) :
    ∃ d' t, body Try.prog R 47 [d] H = some (d', H ++ t) ∧ IsS (H ++ t) 18 xs d' ∧ (∀ i, At d' i → H.length ≤ i) ∧ (∀ i, At d' i → i < H.length + t.length) := by
  rw [body_eq Try.func47 rfl rfl]
  have ap : ∀ h : List Ob, xs ≠ [] → apK 192 18 h (D.sl 18 [] true) [] xs = some (.own 18 h.length 0 0 xs.length, h ++ [⟨0, 18, xs, 0⟩]) := by
    intro h hx
    have hne : xs.length ≠ 0 := fun e => hx (List.length_eq_zero_iff.1 e)
    rw [apK_ok (by simp only [List.length_nil]; omega), apN_sl' hne]; simp [newOb]
  have ap0 : ∀ h : List Ob, apK 192 18 h (D.sl 18 [] true) [] [] = some (.sl 18 [] true, h) := by
    intro h; rw [apK_ok (by simp), apN_nil]
  rcases h with ⟨rfl, rfl⟩ | ⟨t, rfl⟩ | ⟨id, ver, off, len, rfl, he⟩
  · exact ⟨.snil, [], by simp [argsσ, Vm.results, binD, scal, eqD], .inl ⟨rfl, rfl⟩, fun i hi => absurd hi (at_snil i), fun i hi => absurd hi (at_snil i)⟩
  · by_cases hx : xs = []
    · subst hx
      exact ⟨.sl 18 [] true, [], by simp [argsσ, Vm.results, binD, scal, eqD, ap0], .inr (.inl ⟨rfl, rfl⟩), fun i hi => absurd hi (at_sl _ _ _ i), fun i hi => absurd hi (at_sl _ _ _ i)⟩
    · refine ⟨.own 18 H.length 0 0 xs.length, [⟨0, 18, xs, 0⟩], by simp [argsσ, Vm.results, binD, scal, eqD, ap, hx], .inr (.inr ⟨H.length, 0, [], rfl, by simp⟩), fun i hi => ?_, fun i hi => ?_⟩ <;> (rw [at_own] at hi; subst hi; simp)
  · by_cases hx : xs = []
    · subst hx
      exact ⟨.sl 18 [] true, [], by simp [argsσ, Vm.results, binD, scal, eqD, ap0, he], .inr (.inl ⟨rfl, rfl⟩), fun i hi => absurd hi (at_sl _ _ _ i), fun i hi => absurd hi (at_sl _ _ _ i)⟩
    · refine ⟨.own 18 H.length 0 0 xs.length, [⟨0, 18, xs, 0⟩], by simp [argsσ, Vm.results, binD, scal, eqD, ap, hx, he], .inr (.inr ⟨H.length, 0, [], rfl, by simp⟩), fun i hi => ?_, fun i hi => ?_⟩ <;> (rw [at_own] at hi; subst hi; simp)
theorem clone1_spec {H : List Ob} {d : D} {xs : List D} (h : Src H 1 xs d) (hl : xs.length * 8 ≤ 2 ^ 47) :
    ∃ d' t, body Try.prog R 48 [d] H = some (d', H ++ t) ∧ IsS (H ++ t) 1 xs d' ∧ (∀ i, At d' i → H.length ≤ i) ∧ (∀ i, At d' i → i < H.length + t.length) := by
  rw [body_eq Try.func48 rfl rfl]
  have ap : ∀ h : List Ob, xs ≠ [] → apK 8 1 h (D.sl 1 [] true) [] xs = some (.own 1 h.length 0 0 xs.length, h ++ [⟨0, 1, xs, 0⟩]) := by
    intro h hx
    have hne : xs.length ≠ 0 := fun e => hx (List.length_eq_zero_iff.1 e)
    rw [apK_ok (by simp only [List.length_nil]; omega), apN_sl' hne]; simp [newOb]
  have ap0 : ∀ h : List Ob, apK 8 1 h (D.sl 1 [] true) [] [] = some (.sl 1 [] true, h) := by
    intro h; rw [apK_ok (by simp), apN_nil]
  rcases h with ⟨rfl, rfl⟩ | ⟨t, rfl⟩ | ⟨id, ver, off, len, rfl, he⟩
  · exact ⟨.snil, [], by simp [argsσ, Vm.results, binD, scal, eqD], .inl ⟨rfl, rfl⟩, fun i hi => absurd hi (at_snil i), fun i hi => absurd hi (at_snil i)⟩
  · by_cases hx : xs = []
    · subst hx
      exact ⟨.sl 1 [] true, [], by simp [argsσ, Vm.results, binD, scal, eqD, ap0], .inr (.inl ⟨rfl, rfl⟩), fun i hi => absurd hi (at_sl _ _ _ i), fun i hi => absurd hi (at_sl _ _ _ i)⟩
    · refine ⟨.own 1 H.length 0 0 xs.length, [⟨0, 1, xs, 0⟩], by simp [argsσ, Vm.results, binD, scal, eqD, ap, hx], .inr (.inr ⟨H.length, 0, [], rfl, by simp⟩), fun i hi => ?_, fun i hi => ?_⟩ <;> (rw [at_own] at hi; subst hi; simp)
  · by_cases hx : xs = []
    · subst hx
      exact ⟨.sl 1 [] true, [], by simp [argsσ, Vm.results, binD, scal, eqD, ap0, he], .inr (.inl ⟨rfl, rfl⟩), fun i hi => absurd hi (at_sl _ _ _ i), fun i hi => absurd hi (at_sl _ _ _ i)⟩
    · refine ⟨.own 1 H.length 0 0 xs.length, [⟨0, 1, xs, 0⟩], by simp [argsσ, Vm.results, binD, scal, eqD, ap, hx, he], .inr (.inr ⟨H.length, 0, [], rfl, by simp⟩), fun i hi => ?_, fun i hi => ?_⟩ <;> (rw [at_own] at hi; subst hi; simp)
theorem appE {z b : Nat} (H : List Ob) (xs : List D) (hl : xs.length * b ≤ 2 ^ 47) : ∃ d' t, apK b z H (.sl z [] true) [] xs = some (d', H ++ t) ∧ IsS (H ++ t) z xs d' ∧ (∀ i, At d' i → H.length ≤ i) ∧ (∀ i, At d' i → i < H.length + t.length) := by
  rw [apK_ok (by simpa using hl)]
  by_cases hx : xs = []
  · subst hx
    exact ⟨.sl z [] true, [], by rw [apN_nil]; simp, .inr (.inl ⟨rfl, rfl⟩), fun i hi => absurd hi (at_sl _ _ _ i), fun i hi => absurd hi (at_sl _ _ _ i)⟩
  · have hne : xs.length ≠ 0 := fun e => hx (List.length_eq_zero_iff.1 e)
    refine ⟨.own z H.length 0 0 xs.length, [⟨0, z, xs, 0⟩], by rw [apN_sl' hne]; simp [newOb], .inr (.inr ⟨H.length, 0, [], rfl, by simp⟩), fun i hi => ?_, fun i hi => ?_⟩ <;> (rw [at_own] at hi; subst hi; simp)
theorem IsS.takeD {H : List Ob} {z : Nat} {xs : List D} {d : D} (h : IsS H z xs d) {t e : Nat} (hu : Try.prog.underlying t = some (.slice e)) (hs : szT Try.prog e = some z) (n : Nat) (hn : n ≤ xs.length) :
    ∃ d', (∀ h : List Ob, sliceD Try.prog h t d none (some (I n)) none = some (d', h)) ∧ IsS H z (xs.take n) d' ∧ (∀ i, At d' i → At d i) := by
  have hb : ∀ m k, m = xs.length → bndD m k (some (I (n : Int))) = some n := by
    intro m k hm; simp only [bndD]; rw [if_pos (by omega)]; simp
  have h0 : bndD 0 0 (some (D.int .i64 0)) = some 0 := rfl
  rcases h with ⟨rfl, rfl⟩ | ⟨rfl, rfl⟩ | ⟨id, ver, rest, rfl, hh⟩
  · have n0 : n = 0 := by simpa using hn
    subst n0
    refine ⟨.snil, fun h => ?_, .inl ⟨rfl, rfl⟩, fun i hi => hi⟩
    simp only [sliceD, hu, hs]
    rfl
  · have n0 : n = 0 := by simpa using hn
    subst n0
    refine ⟨.sl z [] true, fun h => ?_, .inr (.inl ⟨rfl, rfl⟩), fun i hi => hi⟩
    simp [sliceD, hu, hs, bndD]
  · refine ⟨.own z id ver 0 n, fun h => ?_, .inr (.inr ⟨id, ver, xs.drop n ++ rest, by simp; omega, ?_⟩), fun i hi => hi⟩
    · simp only [sliceD, hu, hs, show ∀ a b, bndD a b none = some b from fun _ _ => rfl, hb _ _ rfl]
      simp [hn]
    · rw [hh, ← List.append_assoc, List.take_append_drop]
theorem IsS.ix {H : List Ob} {α : Type} {e : α → D} {z : Nat} {l : List α} {d : D} (h : IsS H z (l.map e) d) {t el : Nat} (hu : Try.prog.underlying t = some (.slice el)) (hs : szT Try.prog el = some z) {i : Nat} (hi : i < l.length) :
    ∃ id ver rest, d = .own z id ver 0 l.length ∧ H[id]? = some ⟨ver, z, l.map e ++ rest, 0⟩ ∧ (l.map e ++ rest)[i]? = some (e l[i]) ∧ indexAddrD Try.prog t d (I i) = some (.ptr id ver i 0) := by
  rcases h with ⟨rfl, hx⟩ | ⟨rfl, hx⟩ | ⟨id, ver, rest, rfl, hh⟩
  · have hx : l = [] := by simpa using hx
    subst hx; simp at hi
  · have hx : l = [] := by simpa using hx
    subst hx; simp at hi
  · refine ⟨id, ver, rest, by simp, hh, ?_, ?_⟩
    · rw [List.getElem?_append_left (by simpa using hi)]; simp [hi]
    · have := ix_own hu hs id ver 0 (l.map e).length .i64 i ⟨by omega, by simp; omega⟩
      simpa using this
theorem src_encL {α : Type} {z : Nat} {e : α → D} {H : List Ob} (b : Option (List α)) : Src H z ((b.getD []).map e) (encL z e b) := by
  cases b with
  | none => exact .inl ⟨rfl, rfl⟩
  | some l => exact .inr (.inl ⟨false, rfl⟩)
/-- a pen's lists, in memory of their own -/
structure Pv (H : List Ob) (p : Pn) (C F : D) : Prop where
  c : IsS H 18 (p.cells.map encC) C
  f : IsS H 1 (p.free.map I) F
  d : ∀ i, At C i → ¬ At F i
theorem bq_cell (c : Ce) : beq (encC c) (encC c) = true := by
  have h1 : ∀ b : Option (List Vl), beq (encL 2 encV b) (encL 2 encV b) = true := fun b => by cases b <;> simp [encL, bq_vals]
  have h2 : ∀ b : Option (List Slt), beq (encL 6 encSlt b) (encL 6 encSlt b) = true := fun b => by cases b <;> simp [encL, bq_slts]
  simp [h1, h2]
theorem bq_cells : ∀ l : List Ce, beqs (l.map encC) (l.map encC) = true
  | [] => by simp
  | x :: l => by
    have h := bq_cell x
    rw [List.map_cons]
    show beqs (encC x :: l.map encC) (encC x :: l.map encC) = true
    rw [show beqs (encC x :: l.map encC) (encC x :: l.map encC) = (beq (encC x) (encC x) && beqs (l.map encC) (l.map encC)) by simp only [beqs], h, bq_cells l]; rfl
theorem bq_ints : ∀ l : List Int, beqs (l.map I) (l.map I) = true
  | [] => by simp
  | x :: l => by simp [bq_ints l]
theorem pclone_spec (cs : Option (List Ce)) (fr : Option (List Int)) (m : Int) (H : List Ob) (hs : (cs.getD []).length ≤ 2 ^ 30) (hf : (fr.getD []).length ≤ 2 ^ 30) :
    ∃ C F t, body Try.prog R 30 [pnC (encL 18 encC cs) (encL 1 I fr) m] H = some (pnC C F m, H ++ t) ∧ Pv (H ++ t) ⟨cs.getD [], fr.getD [], m⟩ C F ∧ (∀ i, At C i ∨ At F i → H.length ≤ i) := by
  obtain ⟨a, ha⟩ : ∃ a : Ob, a = ⟨0, 3, [pnC (encL 18 encC cs) (encL 1 I fr) m], 0⟩ := ⟨_, rfl⟩
  obtain ⟨b, hb⟩ : ∃ b : Ob, b = ⟨0, 3, [pnC .snil .snil 0], 0⟩ := ⟨_, rfl⟩
  obtain ⟨C, t1, e1, i1, g1, l1⟩ := clone18_spec (H := H ++ [a, b]) (src_encL (e := encC) cs) (by simp; omega)
  obtain ⟨F, t2, e2, i2, g2, l2⟩ := clone1_spec (H := H ++ a :: b :: t1) (src_encL (e := I) fr) (by simp; omega)
  have n1 := i1.one; have n2 := i2.one
  have c1 := i1.cells; have c2 := i2.cells
  simp only [List.append_assoc, List.cons_append, List.nil_append] at e1 e2 i1 i2
  simp only [List.length_append, List.length_cons, List.length_nil] at g1 g2 l1 l2
  have q1 : beq (encL 18 encC cs) (encL 18 encC cs) = true := by cases cs <;> simp [encL, bq_cells]
  have q2 : beq (encL 1 I fr) (encL 1 I fr) = true := by cases fr <;> simp [encL, bq_ints]
  refine ⟨C, F, ⟨0, 3, [pnC C F m], 0⟩ :: ⟨0, 3, [pnC C F m], 0⟩ :: (t1 ++ t2), ?_, ⟨?_, ?_, ?_⟩, ?_⟩
  · subst ha hb
    have hd := dr30_1
    simp [opsAt, opsIn, Try.f30] at hd
    have hdw := Wdraw hd
    clear hd
    rw [body_eq Try.func30 rfl rfl]
    simp [argsσ, Vm.results, hdw, e1, e2, n1, n2, c1, c2, q1, q2, logL, loud, isE, drawChk]
  · refine i1.keep fun i hi => ?_
    have := g1 i hi; have := l1 i hi
    obtain ⟨k, rfl⟩ : ∃ k, i = H.length + (k + 2) := ⟨i - H.length - 2, by omega⟩
    rw [get_app rfl, get_app rfl]
    simp only [List.getElem?_cons_succ]
    rw [List.getElem?_append_left (by omega)]
  · refine i2.keep fun i hi => ?_
    have := g2 i hi; have := l2 i hi
    obtain ⟨k, rfl⟩ : ∃ k, i = H.length + (k + 2) := ⟨i - H.length - 2, by omega⟩
    rw [get_app rfl, get_app rfl]
    simp only [List.getElem?_cons_succ]
  · intro i h1 h2; have := l1 i h1; have := g2 i h2; omega
  · rintro i (h1 | h1)
    · have := g1 i h1; omega
    · have := g2 i h1; omega
theorem copied_spec (cs : Option (List Ce)) (fr : Option (List Int)) (m : Int) (H : List Ob) (hs : (cs.getD []).length ≤ 2 ^ 30) (hf : (fr.getD []).length ≤ 2 ^ 30) :
    ∃ C F t, body Try.prog R 31 [pnC (encL 18 encC cs) (encL 1 I fr) m] H = some (pnC C F m, H ++ t) ∧ Pv (H ++ t) ⟨cs.getD [], fr.getD [], m⟩ C F ∧ (∀ i, At C i ∨ At F i → H.length ≤ i) := by
  obtain ⟨a, ha⟩ : ∃ a : Ob, a = ⟨0, 3, [pnC (encL 18 encC cs) (encL 1 I fr) m], 0⟩ := ⟨_, rfl⟩
  obtain ⟨b, hb⟩ : ∃ b : Ob, b = ⟨0, 3, [pnC .snil .snil 0], 0⟩ := ⟨_, rfl⟩
  obtain ⟨C, t1, e1, i1, g1, l1⟩ := appE (z := 18) (b := 192) (H ++ [a, b]) ((cs.getD []).map encC) (by simp; omega)
  have n1 := i1.one; have c1 := i1.cells
  obtain ⟨a2, ha2⟩ : ∃ a : Ob, a = ⟨0, 3, [pnC C (encL 1 I fr) m], 0⟩ := ⟨_, rfl⟩
  obtain ⟨F, t2, e2, i2, g2, l2⟩ := appE (z := 1) (b := 8) (H ++ a2 :: b :: t1) ((fr.getD []).map I) (by simp; omega)
  have n2 := i2.one; have c2 := i2.cells
  simp only [List.append_assoc, List.cons_append, List.nil_append] at e1 e2 i1 i2
  simp only [List.length_append, List.length_cons, List.length_nil] at g1 g2 l1 l2
  refine ⟨C, F, ⟨0, 3, [pnC C F m], 0⟩ :: ⟨0, 3, [pnC C F m], 0⟩ :: (t1 ++ t2), ?_, ⟨?_, ?_, ?_⟩, ?_⟩
  · subst ha hb ha2
    rw [body_eq Try.func31 rfl rfl]
    simp [argsσ, Vm.results, e1, e2, n1, n2, c1, c2]
  · refine i1.keep fun i hi => ?_
    have := g1 i hi; have := l1 i hi
    obtain ⟨k, rfl⟩ : ∃ k, i = H.length + (k + 2) := ⟨i - H.length - 2, by omega⟩
    rw [get_app rfl, get_app rfl]
    simp only [List.getElem?_cons_succ]
    rw [List.getElem?_append_left (by omega)]
  · refine i2.keep fun i hi => ?_
    have := g2 i hi; have := l2 i hi
    obtain ⟨k, rfl⟩ : ∃ k, i = H.length + (k + 2) := ⟨i - H.length - 2, by omega⟩
    rw [get_app rfl, get_app rfl]
    simp only [List.getElem?_cons_succ]
  · intro i h1 h2; have := l1 i h1; have := g2 i h2; omega
  · rintro i (h1 | h1)
    · have := g1 i h1; omega
    · have := g2 i h1; omega
end Go.Proofs.YtopgmnjijioheaaW.Rg
