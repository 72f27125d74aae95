/- What pens do, as plain lists. No conditions. -/
import Derived.Test.YtopgmnjijioheaaVmPM2
set_option linter.unusedVariables false
set_option linter.unusedSimpArgs false
namespace Go.Proofs.YtopgmnjijioheaaW.Md
open Go.Proofs.YtopgmnjijioheaaW.Vm
/-- the cell of a number is free -/
def U (l : List Ce) (k : Nat) : Prop := ∃ c, l[k]? = some c ∧ c.used = false
theorem U_set {l : List Ce} {n : Nat} {c : Ce} (k : Nat) : U (l.set n c) k ↔ if k = n then n < l.length ∧ c.used = false else U l k := by
  unfold U
  rw [List.getElem?_set]
  by_cases h : k = n
  · subst h
    rw [if_pos rfl, if_pos rfl]
    by_cases h2 : k < l.length
    · rw [if_pos h2]; simp [h2]
    · rw [if_neg h2]; simp [h2]
  · rw [if_neg h, if_neg (Ne.symm h)]
theorem U_app {l : List Ce} {c : Ce} (k : Nat) : U (l ++ [c]) k ↔ U l k ∨ (k = l.length ∧ c.used = false) := by
  unfold U
  by_cases h : k < l.length
  · rw [List.getElem?_append_left h]
    constructor
    · exact .inl
    · rintro (h1 | ⟨h1, _⟩)
      · exact h1
      · omega
  · rw [List.getElem?_append_right (by omega), List.getElem?_eq_none (l := l) (by omega)]
    by_cases h2 : k = l.length
    · subst h2; simp
    · have : [c][k - l.length]? = none := List.getElem?_eq_none (by simp; omega)
      rw [this]; simp [h2]
theorem may_iff (p : Pn) : mayPn p = true ↔ headPn p = true ∧ (∀ c ∈ p.cells, genOk c = true) ∧ p.free.Nodup ∧ ∀ n : Int, n ∈ p.free ↔ ∃ k, U p.cells k ∧ n = (k : Nat) := by
  have hm : ∀ n : Int, n ∈ freeOf 0 p.cells ↔ ∃ k, U p.cells k ∧ n = (k : Nat) := fun n => by
    rw [freeOf_mem]
    constructor
    · rintro ⟨k, c, h1, h2, h3⟩; exact ⟨k, ⟨c, h1, h2⟩, by omega⟩
    · rintro ⟨k, ⟨c, h1, h2⟩, h3⟩; exact ⟨k, c, h1, h2, by omega⟩
  unfold mayPn
  simp only [Bool.and_eq_true, decide_eq_true_eq, List.all_eq_true]
  constructor
  · rintro ⟨h1, h2, h3⟩
    have hp : p.free.Perm (freeOf 0 p.cells) := by rw [h3]; exact (isortZ_perm _).symm
    exact ⟨h1, h2, hp.nodup_iff.2 (freeOf_nodup _ _), fun n => by rw [hp.mem_iff, hm]⟩
  · rintro ⟨h1, h2, h3, h4⟩
    refine ⟨h1, h2, ?_⟩
    have hp : (freeOf 0 p.cells).Perm p.free := List.perm_iff_count.2 fun n => by
      rw [(freeOf_nodup _ _).count, h3.count]
      have : n ∈ freeOf 0 p.cells ↔ n ∈ p.free := by rw [hm, h4]
      by_cases k : n ∈ p.free
      · rw [if_pos k, if_pos (this.2 k)]
      · rw [if_neg k, if_neg (fun e => k (this.1 e))]
    exact sortedZ_unique (le_of_lt_pair (freeOf_sorted _ _)) (isortZ_sorted _) (hp.trans (isortZ_perm _).symm)
theorem flen_eq {p : Pn} (h : mayPn p = true) : (freeOf 0 p.cells).length = p.free.length := by
  unfold mayPn at h
  simp only [Bool.and_eq_true, decide_eq_true_eq] at h
  rw [h.2.2, (isortZ_perm p.free).length_eq]
theorem head_iff (p : Pn) : headPn p = true ↔ 1 ≤ p.most ∧ p.most ≤ 1024 ∧ (p.cells.length : Int) ≤ p.most := by
  unfold headPn
  simp only [Bool.and_eq_true, decide_eq_true_eq, and_assoc]
theorem gen_ok {c : Ce} : genOk c = true ↔ 0 ≤ c.gen ∧ c.gen ≤ 4294967295 := by
  unfold genOk
  simp only [Bool.and_eq_true, decide_eq_true_eq]
/-! what is used -/
theorem used_mem : ∀ (l : List Ce) (i : Nat) (r : Rf), r ∈ usedOf i l ↔ ∃ k c, l[k]? = some c ∧ c.used = true ∧ r = ⟨((i + k : Nat) : Int), c.gen⟩
  | [], i, r => by simp [usedOf]
  | c :: l, i, r => by
    have ih := used_mem l (i + 1) r
    unfold usedOf
    constructor
    · intro h
      split at h
      · rename_i hc
        rcases List.mem_cons.1 h with rfl | h
        · exact ⟨0, c, rfl, hc, by simp⟩
        · obtain ⟨k, d, h1, h2, h3⟩ := ih.1 h
          exact ⟨k + 1, d, by simpa using h1, h2, by rw [h3]; congr 1; omega⟩
      · obtain ⟨k, d, h1, h2, h3⟩ := ih.1 h
        exact ⟨k + 1, d, by simpa using h1, h2, by rw [h3]; congr 1; omega⟩
    · rintro ⟨k, d, h1, h2, h3⟩
      cases k with
      | zero =>
        simp only [List.getElem?_cons_zero, Option.some.injEq] at h1
        subst h1
        rw [if_pos h2]
        exact List.mem_cons.2 (.inl (by rw [h3]; simp))
      | succ k =>
        have : r ∈ usedOf (i + 1) l := ih.2 ⟨k, d, by simpa using h1, h2, by rw [h3]; congr 1; omega⟩
        split
        · exact List.mem_cons.2 (.inr this)
        · exact this
theorem used_sorted : ∀ (l : List Ce) (i : Nat), (usedOf i l).Pairwise (fun a b => a.ag < b.ag)
  | [], _ => .nil
  | c :: l, i => by
    unfold usedOf
    split
    · refine List.pairwise_cons.2 ⟨fun r hr => ?_, used_sorted l (i + 1)⟩
      obtain ⟨k, d, _, _, h3⟩ := (used_mem l (i + 1) r).1 hr
      rw [h3]; simp only; omega
    · exact used_sorted l (i + 1)
theorem used_free : ∀ (l : List Ce) (i : Nat), (usedOf i l).length + (freeOf i l).length = l.length
  | [], i => by simp [usedOf, freeOf]
  | c :: l, i => by
    have ih := used_free l (i + 1)
    unfold usedOf freeOf
    split <;> simp <;> omega
theorem sortedR_unique : ∀ {l m : List Rf}, l.Pairwise (fun a b => a.ag < b.ag) → m.Pairwise (fun a b => a.ag < b.ag) → (∀ r, r ∈ l ↔ r ∈ m) → l = m
  | [], [], _, _, _ => rfl
  | [], y :: m, _, _, h => by have := (h y).2 (by simp); simp at this
  | x :: l, [], _, _, h => by have := (h x).1 (by simp); simp at this
  | x :: l, y :: m, hl, hm, h => by
    obtain ⟨hx, hl'⟩ := List.pairwise_cons.1 hl
    obtain ⟨hy, hm'⟩ := List.pairwise_cons.1 hm
    have e : x = y := by
      rcases List.mem_cons.1 ((h x).1 (by simp)) with h1 | h1
      · exact h1
      · rcases List.mem_cons.1 ((h y).2 (by simp)) with h2 | h2
        · exact h2.symm
        · have := hy x h1; have := hx y h2; omega
    subst e
    congr 1
    refine sortedR_unique hl' hm' fun r => ?_
    have := h r
    simp only [List.mem_cons] at this
    constructor
    · intro h1
      rcases this.1 (.inr h1) with rfl | h2
      · have := hx r h1; omega
      · exact h2
    · intro h1
      rcases this.2 (.inr h1) with rfl | h2
      · have := hy r h1; omega
      · exact h2
theorem held_iff (p : Pn) (r : Rf) : heldPn p r = true ↔ ∃ k c, p.cells[k]? = some c ∧ c.used = true ∧ r = ⟨(k : Nat), c.gen⟩ := by
  unfold heldPn cellAt
  simp only [Bool.and_eq_true, decide_eq_true_eq]
  constructor
  · rintro ⟨⟨⟨h1, h2⟩, h3⟩, h4⟩
    obtain ⟨n, hn⟩ : ∃ n : Nat, r.ag = n := ⟨r.ag.toNat, by omega⟩
    have hl : n < p.cells.length := by omega
    rw [hn, Int.toNat_natCast, List.getElem?_eq_getElem hl] at h3 h4
    refine ⟨n, p.cells[n], List.getElem?_eq_getElem hl, h3, ?_⟩
    obtain ⟨a, g⟩ := r
    simp only at hn h4
    rw [hn, ← h4]; rfl
  · rintro ⟨k, c, h1, h2, rfl⟩
    have hl := (List.getElem?_eq_some_iff.1 h1).1
    simp only [Int.toNat_natCast, h1, Option.getD_some]
    exact ⟨⟨⟨by omega, by omega⟩, h2⟩, trivial⟩
theorem held_mem {p : Pn} (h : mayPn p = true) (r : Rf) : heldPn p r = true ↔ r ∈ refsPn p := by
  unfold refsPn
  rw [if_pos h, held_iff, used_mem]
  simp only [Nat.zero_add]
theorem get_some {p : Pn} (h : mayPn p = true) {k : Nat} {c : Ce} (h1 : p.cells[k]? = some c) (h2 : c.used = true) : getPn p ⟨(k : Nat), c.gen⟩ = some c.x := by
  unfold getPn
  rw [if_pos ⟨h, (held_iff p _).2 ⟨k, c, h1, h2, rfl⟩⟩]
  unfold cellAt
  simp [h1]
theorem get_none {p : Pn} {r : Rf} (h : heldPn p r = false) : getPn p r = none := by
  unfold getPn
  rw [if_neg (by rw [h]; simp)]
theorem get_is (p : Pn) (r : Rf) : (getPn p r).isSome = (mayPn p && heldPn p r) := by
  unfold getPn
  cases mayPn p <;> cases heldPn p r <;> rfl
/-! steps keep what may be -/
theorem genAll_set {l : List Ce} {n : Nat} {c : Ce} (h : ∀ c ∈ l, genOk c = true) (hc : genOk c = true) : ∀ d ∈ l.set n c, genOk d = true := fun d hd => by
  rcases List.mem_or_eq_of_mem_set hd with h1 | rfl
  · exact h d h1
  · exact hc
theorem may_put {p : Pn} (h : mayPn p = true) {n : Nat} {c d : Ce} (h1 : p.cells[n]? = some c) (h2 : c.used = true) (hd : d.used = true) (hg : genOk d = true) : mayPn ⟨p.cells.set n d, p.free, p.most⟩ = true := by
  obtain ⟨a1, a2, a3, a4⟩ := (may_iff p).1 h
  refine (may_iff _).2 ⟨?_, genAll_set a2 hg, a3, fun m => ?_⟩
  · rw [head_iff] at a1 ⊢; simpa using a1
  · rw [a4]
    constructor
    · rintro ⟨k, hk, rfl⟩
      refine ⟨k, ?_, rfl⟩
      rw [U_set]
      by_cases e : k = n
      · subst e; obtain ⟨c', e1, e2⟩ := hk; rw [h1] at e1; have := Option.some.inj e1; rw [← this, h2] at e2; cases e2
      · rw [if_neg e]; exact hk
    · rintro ⟨k, hk, rfl⟩
      refine ⟨k, ?_, rfl⟩
      rw [U_set] at hk
      by_cases e : k = n
      · rw [if_pos e, hd] at hk; cases hk.2
      · rw [if_neg e] at hk; exact hk
theorem may_drop {p : Pn} (h : mayPn p = true) {n : Nat} {c d : Ce} (h1 : p.cells[n]? = some c) (h2 : c.used = true) (hd : d.used = false) (hg : genOk d = true) : mayPn ⟨p.cells.set n d, p.free ++ [(n : Int)], p.most⟩ = true := by
  obtain ⟨a1, a2, a3, a4⟩ := (may_iff p).1 h
  have hl := (List.getElem?_eq_some_iff.1 h1).1
  have hn : (n : Int) ∉ p.free := fun e => by
    obtain ⟨k, ⟨c', e1, e2⟩, e3⟩ := (a4 n).1 e
    have : k = n := by omega
    subst this
    rw [h1] at e1; have := Option.some.inj e1; rw [← this, h2] at e2; cases e2
  refine (may_iff _).2 ⟨?_, genAll_set a2 hg, ?_, fun m => ?_⟩
  · rw [head_iff] at a1 ⊢; simpa using a1
  · rw [List.nodup_append]
    exact ⟨a3, by simp, fun a ha b hb => by rw [List.mem_singleton.1 hb]; rintro rfl; exact hn ha⟩
  · simp only [List.mem_append, List.mem_singleton]
    rw [a4]
    constructor
    · rintro (⟨k, hk, rfl⟩ | rfl)
      · refine ⟨k, ?_, rfl⟩
        rw [U_set]
        by_cases e : k = n
        · rw [if_pos e]; exact ⟨hl, hd⟩
        · rw [if_neg e]; exact hk
      · exact ⟨n, by rw [U_set, if_pos rfl]; exact ⟨hl, hd⟩, rfl⟩
    · rintro ⟨k, hk, rfl⟩
      rw [U_set] at hk
      by_cases e : k = n
      · right; omega
      · rw [if_neg e] at hk; exact .inl ⟨k, hk, rfl⟩
theorem may_use {p : Pn} (h : mayPn p = true) {n : Nat} {c d : Ce} (h1 : p.cells[n]? = some c) (hf : p.free = p.free.dropLast ++ [(n : Int)]) (hd : d.used = true) (hg : genOk d = true) : mayPn ⟨p.cells.set n d, p.free.dropLast, p.most⟩ = true := by
  obtain ⟨a1, a2, a3, a4⟩ := (may_iff p).1 h
  have hl := (List.getElem?_eq_some_iff.1 h1).1
  generalize p.free.dropLast = F at *
  rw [hf] at a3 a4
  rw [List.nodup_append] at a3
  refine (may_iff _).2 ⟨?_, genAll_set a2 hg, a3.1, fun m => ?_⟩
  · rw [head_iff] at a1 ⊢; simpa using a1
  · have b4 := a4 m
    simp only [List.mem_append, List.mem_singleton] at b4
    constructor
    · intro hm
      obtain ⟨k, hk, rfl⟩ := b4.1 (.inl hm)
      refine ⟨k, ?_, rfl⟩
      rw [U_set]
      by_cases e : k = n
      · subst e; exact absurd rfl (a3.2.2 _ hm _ (by simp))
      · rw [if_neg e]; exact hk
    · rintro ⟨k, hk, rfl⟩
      rw [U_set] at hk
      by_cases e : k = n
      · rw [if_pos e, hd] at hk; cases hk.2
      · rw [if_neg e] at hk
        rcases b4.2 ⟨k, hk, rfl⟩ with h5 | h5
        · exact h5
        · omega
theorem may_grow {p : Pn} (h : mayPn p = true) (hf : p.free = []) (hl : (p.cells.length : Int) ≠ p.most) {d : Ce} (hd : d.used = true) (hg : genOk d = true) : mayPn ⟨p.cells ++ [d], [], p.most⟩ = true := by
  obtain ⟨a1, a2, a3, a4⟩ := (may_iff p).1 h
  rw [hf] at a4
  refine (may_iff _).2 ⟨?_, fun c hc => ?_, by simp, fun m => ?_⟩
  · rw [head_iff] at a1 ⊢; simp; omega
  · rcases List.mem_append.1 hc with h1 | h1
    · exact a2 c h1
    · rw [List.mem_singleton.1 h1]; exact hg
  · rw [a4]
    constructor
    · rintro ⟨k, hk, rfl⟩; exact ⟨k, (U_app k).2 (.inl hk), rfl⟩
    · rintro ⟨k, hk, rfl⟩
      rcases (U_app k).1 hk with h5 | ⟨_, h5⟩
      · exact ⟨k, h5, rfl⟩
      · rw [hd] at h5; cases h5
end Go.Proofs.YtopgmnjijioheaaW.Md
