import Derived.Test.YtclfpfdpaigdiaaVmR9
set_option linter.unusedVariables false
set_option linter.unusedSimpArgs false
namespace Go.Proofs.YtclfpfdpaigdiaaW.Rg
open Go.Proofs.YtclfpfdpaigdiaaW.Vm
open Go Go.Proofs
/-! a ring is a list -/
theorem mod_two {a n : Nat} (h : a < 2 * n) : a % n = if a < n then a else a - n := by
  split
  · exact Nat.mod_eq_of_lt ‹_›
  · rw [Nat.mod_eq_sub_mod (by omega), Nat.mod_eq_of_lt (by omega)]
theorem item_stolen (r : Ring) (h : 0 < r.l.length) (j : Nat) : item (stolen r) j = item r (1 + j) := by
  show r.l.getD (((((r.head.toNat + 1) % r.l.length : Nat) : Int).toNat + j) % r.l.length) rf0 = r.l.getD ((r.head.toNat + (1 + j)) % r.l.length) rf0
  rw [Int.toNat_natCast, Nat.mod_add_mod, Nat.add_assoc]
theorem item_st (r : Ring) (h : 0 < r.l.length) : ∀ (i j : Nat), item (st r i) j = item r (i + j)
  | 0, j => by simp [st]
  | i + 1, j => by
    rw [st, item_stolen _ (by rw [(st_l r i).1]; exact h), item_st r h i, Nat.add_assoc]
theorem firsts_eq (r : Ring) (h : 0 < r.l.length) (n : Nat) : firsts r n = (List.range n).map (item r) := by
  unfold firsts
  apply List.map_congr_left
  intro j _
  rw [item_st r h]; rfl
theorem split_items (r : Ring) (h : Ok r) (n : Nat) (hn : (n : Int) ≤ r.many) : firsts r n ++ items (st r n) = items r := by
  have h0 := h.h1
  rw [firsts_eq r (by omega), items, items, (st_ok h n hn).2]
  rw [show r.many.toNat = n + (r.many - n).toNat by omega, List.range_add, List.map_append, List.map_map]
  congr 1
  apply List.map_congr_left
  intro j _
  exact item_st r (by omega) n j
theorem laid_l (r : Ring) (x : Ref) : (laid r x).l = r.l.set ((r.head.toNat + r.many.toNat) % r.l.length) x := rfl
theorem items_laid (r : Ring) (h : Ok r) (hm : r.many < r.l.length) (x : Ref) : items (laid r x) = items r ++ [x] := by
  have := h.h1; have := h.h4; have := h.h5; have := h.h6
  have e : (laid r x).many.toNat = r.many.toNat + 1 := by show (r.many + 1).toNat = _; omega
  have hl : (laid r x).l.length = r.l.length := by rw [laid_l]; simp
  rw [items, e, List.range_succ, List.map_append]
  have hlt : ∀ j, (r.head.toNat + j) % r.l.length < r.l.length := fun j => Nat.mod_lt _ (by omega)
  congr 1
  · apply List.map_congr_left
    intro j hj
    have hj : j < r.many.toNat := by simpa using hj
    show (laid r x).l.getD ((r.head.toNat + j) % (laid r x).l.length) rf0 = r.l.getD ((r.head.toNat + j) % r.l.length) rf0
    rw [hl, laid_l, List.getD_eq_getElem?_getD, List.getD_eq_getElem?_getD, List.getElem?_set_ne]
    rw [mod_two (by omega), mod_two (by omega)]
    split <;> split <;> omega
  · show [(laid r x).l.getD ((r.head.toNat + r.many.toNat) % (laid r x).l.length) rf0] = [x]
    rw [hl, laid_l, List.getD_eq_getElem?_getD, List.getElem?_set_self (hlt _)]; rfl
theorem items_grown (r : Ring) (h : Ok r) (h0 : r.many = r.l.length) (hm : r.many < r.most) : items (grown r) = items r := by
  have hg := h.grown h0 hm
  have := hg.2; have h6 := h.h6
  have e : (grown r).many = r.many := rfl
  have hil : (items r).length = r.many.toNat := by simp [items]
  apply List.ext_getElem?
  intro j
  by_cases hj : j < r.many.toNat
  · have hlt : j < (grown r).l.length := by rw [e] at this; omega
    rw [items, List.getElem?_map, e, List.getElem?_range hj]
    show some ((grown r).l.getD ((0 + j) % (grown r).l.length) rf0) = _
    rw [Nat.zero_add, Nat.mod_eq_of_lt hlt]
    show some ((items r ++ _).getD j rf0) = _
    rw [List.getD_eq_getElem?_getD, List.getElem?_append_left (by omega), List.getElem?_eq_getElem (by omega)]; rfl
  · rw [List.getElem?_eq_none (by simp [items, e]; omega), List.getElem?_eq_none (by omega)]
theorem items_pushed (r : Ring) (h : Ok r) (hm : r.many < r.most) (x : Ref) : items (pushed r x) = items r ++ [x] := by
  unfold pushed
  have := h.h7
  split
  · rename_i h0
    rw [items_laid _ (h.grown h0 hm).1 (h.grown h0 hm).2, items_grown r h h0 hm]
  · exact items_laid r h (by omega) x
theorem items_pushes : ∀ (l : List Ref) (r : Ring), Ok r → r.many + l.length ≤ r.most → items (pushes r l) = items r ++ l
  | [], r, h, _ => by simp [pushes]
  | x :: l, r, h, hl => by
    simp only [List.length_cons] at hl
    obtain ⟨e1, e2⟩ := pushed_many r x
    show items (pushes (pushed r x) l) = _
    rw [items_pushes l (pushed r x) (h.pushed (by omega) x) (by rw [e1, e2]; omega), items_pushed r h (by omega) x, List.append_assoc]; rfl
theorem ok_buf {r : Ring} (h : Ok r) : Ok { r with buf := some r.l } := ⟨h.h1, h.h2, h.h3, h.h4, h.h5, h.h6, h.h7⟩
theorem items_buf (r : Ring) : items { r with buf := some r.l } = items r := rfl
end Go.Proofs.YtclfpfdpaigdiaaW.Rg
