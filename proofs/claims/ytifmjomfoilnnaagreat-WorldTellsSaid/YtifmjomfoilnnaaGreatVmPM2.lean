/- When a pen may be: by the program's word, and by the document's. No conditions. -/
import Derived.Test.YtifmjomfoilnnaaGreatVmPM
import Derived.Test.YtifmjomfoilnnaaGreatVmPX
set_option linter.unusedVariables false
set_option linter.unusedSimpArgs false
namespace Go.Proofs.YtifmjomfoilnnaaGreatW.Md
open Go.Proofs.YtifmjomfoilnnaaGreatW.Vm
/-- the document's test of each cell -/
def okR (fr : List Int) : Nat → List Ce → Bool
  | _, [] => true
  | i, c :: l => genOk c && decide ((fr.count (i : Int) : Int) = if c.used = true then 0 else 1) && okR fr (i + 1) l
theorem perm_of_count : ∀ (u fr : List Int), u.Nodup → (∀ x ∈ u, x ∈ fr) → fr.length = u.length → fr.Perm u
  | [], fr, _, _, h => by
    have : fr = [] := List.length_eq_zero_iff.1 (by simpa using h)
    rw [this]
  | x :: u, fr, hn, hm, hl => by
    have hx := hm x (by simp)
    obtain ⟨hx2, hu⟩ := List.nodup_cons.1 hn
    have hp := List.perm_cons_erase hx
    refine hp.trans (List.Perm.cons x (perm_of_count u _ hu (fun y hy => ?_) ?_))
    · have hne : y ≠ x := fun e => hx2 (e ▸ hy)
      exact (List.mem_erase_of_ne hne).2 (hm y (by simp [hy]))
    · rw [List.length_erase_of_mem hx, hl]; simp
theorem freeOf_nodup (l : List Ce) (i : Nat) : (freeOf i l).Nodup := (freeOf_sorted l i).imp fun h => by omega
theorem okR_gen {fr : List Int} : ∀ {l : List Ce} {i : Nat}, okR fr i l = true → l.all genOk = true
  | [], _, _ => rfl
  | c :: l, i, h => by
    unfold okR at h
    simp only [Bool.and_eq_true] at h
    rw [List.all_cons, h.1.1, okR_gen h.2]; rfl
theorem okR_mem {fr : List Int} : ∀ {l : List Ce} {i : Nat}, okR fr i l = true → ∀ n ∈ freeOf i l, n ∈ fr
  | [], _, _, n, hn => by simp [freeOf] at hn
  | c :: l, i, h, n, hn => by
    unfold okR at h
    simp only [Bool.and_eq_true, decide_eq_true_eq] at h
    unfold freeOf at hn
    split at hn
    · exact okR_mem h.2 n hn
    · rename_i hc
      rcases List.mem_cons.1 hn with rfl | hn
      · have := h.1.2
        rw [if_neg hc] at this
        exact List.count_pos_iff.1 (by omega)
      · exact okR_mem h.2 n hn
theorem okR_of {fr : List Int} : ∀ {l : List Ce} {i : Nat}, l.all genOk = true → (∀ k c, l[k]? = some c → fr.count ((i : Int) + (k : Nat)) = if c.used = true then 0 else 1) → okR fr i l = true
  | [], _, _, _ => rfl
  | c :: l, i, hg, h => by
    rw [List.all_cons, Bool.and_eq_true] at hg
    unfold okR
    have h0 := h 0 c rfl
    simp only [Int.natCast_zero, Int.add_zero] at h0
    rw [hg.1, okR_of hg.2 (fun k d hd => by have := h (k + 1) d (by simpa using hd); rw [← this]; congr 1; push_cast; omega)]
    simp only [Bool.true_and, Bool.and_true, decide_eq_true_eq]
    rw [h0]; split <;> rfl
theorem le_of_lt_pair {l : List Int} (h : l.Pairwise (· < ·)) : l.Pairwise (· ≤ ·) := h.imp fun h => by omega
theorem okR_eq (fr : List Int) (l : List Ce) : (okR fr 0 l && decide (fr.length = (freeOf 0 l).length)) = (l.all genOk && decide (freeOf 0 l = isortZ fr)) := by
  rw [Bool.eq_iff_iff]
  simp only [Bool.and_eq_true, decide_eq_true_eq]
  constructor
  · rintro ⟨h1, h2⟩
    refine ⟨okR_gen h1, ?_⟩
    have hp := perm_of_count (freeOf 0 l) fr (freeOf_nodup l 0) (okR_mem h1) h2
    exact sortedZ_unique (le_of_lt_pair (freeOf_sorted l 0)) (isortZ_sorted fr) (hp.symm.trans (isortZ_perm fr).symm)
  · rintro ⟨h1, h2⟩
    have hp : fr.Perm (freeOf 0 l) := by rw [h2]; exact (isortZ_perm fr).symm
    refine ⟨okR_of h1 fun k c hc => ?_, hp.length_eq⟩
    rw [hp.count_eq]
    split
    · rename_i hu
      rw [List.count_eq_zero]
      intro hm
      obtain ⟨k', c', e1, e2, e3⟩ := (freeOf_mem l 0 _).1 hm
      have : k' = k := by omega
      subst this
      rw [hc] at e1
      have := Option.some.inj e1
      rw [← this, hu] at e2
      cases e2
    · rename_i hu
      have hm : ((0 : Nat) : Int) + (k : Nat) ∈ freeOf 0 l := (freeOf_mem l 0 _).2 ⟨k, c, hc, by simpa using hu, rfl⟩
      rw [(freeOf_nodup l 0).count, if_pos hm]
end Go.Proofs.YtifmjomfoilnnaaGreatW.Md
