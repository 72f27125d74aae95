/- One cell laid and dropped again and again; frames one behind the other. No conditions. -/
import Derived.Test.YtopgmnjijioheaaVmPM4
set_option linter.unusedVariables false
set_option linter.unusedSimpArgs false
namespace Go.Proofs.YtopgmnjijioheaaW.Md
open Go.Proofs.YtopgmnjijioheaaW.Vm
/-- a pen of one cell, behind i turns -/
def pG (i : Nat) : Pn := if i = 0 then ⟨[], [], 1⟩ else ⟨[⟨(i : Int), false, fx0⟩], [0], 1⟩
def aG (i : Nat) (x : Fx) : Pn := ⟨[⟨(i : Int), true, x⟩], [], 1⟩
theorem may_aG {i : Nat} (hi : i ≤ 40) (x : Fx) : mayPn (aG i x) = true := by
  have : genOk ⟨(i : Int), true, x⟩ = true := by rw [gen_ok]; simp only; omega
  unfold mayPn aG headPn
  simp [this, freeOf, isortZ]
theorem may_pG {i : Nat} (hi : i ≤ 41) : mayPn (pG i) = true := by
  unfold pG
  by_cases h : i = 0
  · rw [if_pos h]; rfl
  · rw [if_neg h]
    have : genOk ⟨(i : Int), false, fx0⟩ = true := by rw [gen_ok]; simp only; omega
    unfold mayPn headPn
    simp [this, freeOf]
    rfl
theorem lay_G {i : Nat} (hi : i ≤ 40) (x : Fx) : layPn (pG i) x = (aG i x, ⟨0, i⟩, 0) := by
  have hm := may_pG (i := i) (by omega)
  unfold layPn
  rw [if_neg (by rw [hm]; decide)]
  unfold pG aG
  by_cases h : i = 0
  · subst h; rfl
  · rw [if_neg h]; rfl
theorem get_G {i : Nat} (hi : i ≤ 40) (x : Fx) : getPn (aG i x) ⟨0, i⟩ = some x := get_some (k := 0) (c := ⟨(i : Int), true, x⟩) (may_aG hi x) rfl rfl
theorem get_Gn {i k : Nat} (x : Fx) (h : k ≠ i) : getPn (aG i x) ⟨0, k⟩ = none := by
  refine get_none ?_
  unfold heldPn aG cellAt
  simp
  omega
theorem drop_G {i : Nat} (hi : i ≤ 40) (x : Fx) : dropPn (aG i x) ⟨0, i⟩ = (pG (i + 1), 0) := by
  obtain ⟨d1, _⟩ := drop_is (k := 0) (c := ⟨(i : Int), true, x⟩) (may_aG hi x) rfl rfl
  have d1 : dropPn (aG i x) ⟨0, i⟩ = _ := d1
  rw [d1]
  unfold pG aG
  rw [if_neg (by omega)]
  have : ((i : Int) + 1) % 4294967296 = ((i + 1 : Nat) : Int) := by omega
  simp only [List.set_cons_zero, this]
  rfl
theorem refs_G {i : Nat} : refsPn (pG (i + 1)) = [] := by
  unfold refsPn
  split
  · unfold pG; rw [if_neg (by omega)]; rfl
  · rfl
def refsG (i : Nat) : List Rf := (List.range i).map fun k => ⟨0, (k : Nat)⟩
theorem refsG_succ (i : Nat) : refsG (i + 1) = refsG i ++ [⟨0, (i : Nat)⟩] := by unfold refsG; rw [List.range_succ, List.map_append]; rfl
theorem refsG_len (i : Nat) : (refsG i).length = i := by simp [refsG]
theorem refsG_mem {i : Nat} {q : Rf} (h : q ∈ refsG i) : ∃ k, k < i ∧ q = ⟨0, (k : Nat)⟩ := by
  unfold refsG at h
  obtain ⟨k, h1, h2⟩ := List.mem_map.1 h
  exact ⟨k, List.mem_range.1 h1, h2.symm⟩
/-! many -/
def mkC (x : Fx) : Ce := ⟨0, true, x⟩
def pM (l : List Fx) (c : Nat) (m : Int) : Pn := ⟨(l.take c).map mkC, [], m⟩
theorem freeOf_M : ∀ (l : List Fx) (i : Nat), freeOf i (l.map mkC) = []
  | [], _ => rfl
  | x :: l, i => by
    show (if (mkC x).used = true then freeOf (i + 1) (l.map mkC) else _) = []
    rw [if_pos (show (mkC x).used = true from rfl), freeOf_M l]
theorem may_pM {l : List Fx} {c : Nat} {m : Int} (h1 : 1 ≤ m) (h2 : m ≤ 1024) (hc : (c : Int) ≤ m) : mayPn (pM l c m) = true := by
  have hg : ((l.take c).map mkC).all genOk = true := List.all_eq_true.2 fun d hd => by
    obtain ⟨x, _, rfl⟩ := List.mem_map.1 hd; rfl
  have hl : ((l.take c).map mkC).length ≤ c := by simp; omega
  unfold mayPn pM
  simp only [hg, freeOf_M, Bool.true_and]
  rw [(head_iff _).2 ⟨h1, h2, by simp only; omega⟩]
  rfl
theorem lay_M {l : List Fx} {c : Nat} {m : Int} (h1 : 1 ≤ m) (h2 : m ≤ 1024) (hc : (c : Int) < m) {x : Fx} (hx : l[c]? = some x) : layPn (pM l c m) x = (pM l (c + 1) m, ⟨(c : Nat), 0⟩, 0) := by
  have hcl := (List.getElem?_eq_some_iff.1 hx).1
  have hl : ((l.take c).map mkC).length = c := by simp; omega
  unfold layPn
  rw [if_neg (by rw [may_pM h1 h2 (by omega)]; decide), if_pos (show (pM l c m).free = [] from rfl), if_neg (by show ¬ ((((l.take c).map mkC).length : Nat) : Int) = m; rw [hl]; omega)]
  unfold pM
  simp only [hl]
  rw [List.take_add_one, hx]
  simp [mkC]
theorem lay_Mn {l : List Fx} {c : Nat} {m : Int} (h1 : 1 ≤ m) (h2 : m ≤ 1024) (hc : (c : Int) = m) (hcl : c ≤ l.length) (x : Fx) : layPn (pM l c m) x = (pM l c m, ⟨0, 0⟩, 120) := by
  have hl : ((l.take c).map mkC).length = c := by simp; omega
  unfold layPn
  rw [if_neg (by rw [may_pM h1 h2 (by omega)]; decide), if_pos (show (pM l c m).free = [] from rfl), if_pos (by show ((((l.take c).map mkC).length : Nat) : Int) = m; rw [hl]; omega)]
def refsM (i : Nat) : List Rf := (List.range i).map fun k => ⟨(k : Nat), 0⟩
theorem refsM_succ (i : Nat) : refsM (i + 1) = refsM i ++ [⟨(i : Nat), 0⟩] := by unfold refsM; rw [List.range_succ, List.map_append]; rfl
theorem refsM_len (i : Nat) : (refsM i).length = i := by simp [refsM]
theorem refsM_get {i k : Nat} (h : k < i) : (refsM i)[k]? = some ⟨(k : Nat), 0⟩ := by
  unfold refsM
  rw [List.getElem?_map, List.getElem?_range h]; rfl
theorem cell_M {l : List Fx} {c k : Nat} (m : Int) (h : k < c) {x : Fx} (hx : l[k]? = some x) : (pM l c m).cells[k]? = some (mkC x) := by
  unfold pM
  simp only [List.getElem?_map, List.getElem?_take, if_pos h, hx, Option.map_some]
/-- some of the first n cells are dropped: the first j are not -/
structure Part (l : List Fx) (n : Nat) (m : Int) (j : Nat) (p : Pn) : Prop where
  may : mayPn p = true
  most : p.most = m
  held : ∀ k x, k < j → l[k]? = some x → p.cells[k]? = some (mkC x)
theorem part_drop {l : List Fx} {n : Nat} {m : Int} {j : Nat} {p : Pn} (h : Part l n m (j + 1) p) {x : Fx} (hx : l[j]? = some x) : ∃ q, dropPn p ⟨(j : Nat), 0⟩ = (q, 0) ∧ Part l n m j q ∧ (refsPn q).length + 1 = (refsPn p).length := by
  have hc := h.held j x (by omega) hx
  obtain ⟨d1, d2⟩ := drop_is h.may hc rfl
  have hf := refs_flen h.may
  have hf2 := refs_flen d2
  simp only [List.length_append, List.length_set, List.length_cons, List.length_nil] at hf2
  refine ⟨_, d1, ⟨d2, h.most, fun k y hk hy => ?_⟩, by omega⟩
  simp only
  rw [List.getElem?_set_ne (by omega)]
  exact h.held k y (by omega) hy
theorem lay_one {p : Pn} (h : mayPn p = true) (hl : ((refsPn p).length : Int) < p.most) (x : Fx) : ∃ a r, layPn p x = (a, r, 0) ∧ mayPn a = true ∧ a.most = p.most ∧ (refsPn a).length = (refsPn p).length + 1 := by
  have hf := refs_flen h
  obtain ⟨⟨a, r, e⟩, ha⟩ : ∃ t, layPn p x = t := ⟨_, rfl⟩
  rcases lay_is h x with ⟨_, h2, h3, _⟩ | ⟨h1, _, n, L⟩
  · rw [h2] at hf; simp at hf; omega
  · rw [ha] at h1 L
    simp only at h1 L
    subst h1
    exact ⟨a, r, ha, L.may, L.most, by rw [L.refs_eq h, insR_len]⟩
theorem lay_none {p : Pn} (h : mayPn p = true) (hl : ((refsPn p).length : Int) = p.most) (x : Fx) : (layPn p x).2.2 = 120 := by
  have hf := refs_flen h
  have hh := ((head_iff p).1 ((may_iff p).1 h).1)
  rcases lay_is h x with ⟨h1, _⟩ | ⟨_, h2, n, L⟩
  · exact h1
  · exfalso
    have h0 : p.free = [] := List.length_eq_zero_iff.1 (by omega)
    exact h2 h0 (by rw [h0] at hf; simp at hf; omega)
end Go.Proofs.YtopgmnjijioheaaW.Md
