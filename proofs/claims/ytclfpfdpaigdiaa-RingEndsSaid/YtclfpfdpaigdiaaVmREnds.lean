import Derived.Test.YtclfpfdpaigdiaaVmRList
set_option linter.unusedVariables false
set_option linter.unusedSimpArgs false
namespace Go.Proofs.YtclfpfdpaigdiaaW.Rg
open Go.Proofs.YtclfpfdpaigdiaaW.Vm
open Go Go.Proofs
/-- a ring of as many -/
def cutTo (a : Ring) (n : Nat) : Ring := { a with many := n }
theorem cutTo_ok {a : Ring} (h : Ok a) (n : Nat) (hn : (n : Int) ≤ a.many) : Ok (cutTo a n) :=
  ⟨h.h1, h.h2, h.h3, h.h4, h.h5, by show (0 : Int) ≤ n; omega, by have := h.h7; show (n : Int) ≤ a.l.length; omega⟩
theorem popped_cut (a : Ring) (n : Nat) : popped (cutTo a (n + 1)) = cutTo a n := by
  show ({ a with many := ((n + 1 : Nat) : Int) - 1 } : Ring) = { a with many := (n : Int) }
  congr 1; omega
theorem item_cut (a : Ring) (n j : Nat) : item (cutTo a n) j = item a j := rfl
/-- what stays in the heap while a law's loop runs -/
structure Keep (H : List Ob) (o0 o1 o2 o4 : Ob) : Prop where
  h0 : H[0]? = some o0
  h1 : H[1]? = some o1
  h2 : H[2]? = some o2
  h4 : H[4]? = some o4
theorem Keep.lt {H o0 o1 o2 o4} (k : Keep H o0 o1 o2 o4) : 4 < H.length := by
  rcases Nat.lt_or_ge 4 H.length with h | h
  · exact h
  · have := k.h4; rw [List.getElem?_eq_none h] at this; cases this
theorem Keep.next {H o0 o1 o2 o4} (k : Keep H o0 o1 o2 o4) (l : List Ob) (o : Ob) : Keep (H.set 3 o ++ l) o0 o1 o2 o4 := by
  have := k.lt
  refine ⟨?_, ?_, ?_, ?_⟩ <;> rw [List.getElem?_append_left (by simp; omega), List.getElem?_set_ne (by omega)]
  · exact k.h0
  · exact k.h1
  · exact k.h2
  · exact k.h4
theorem ends_pops (a : Ring) (h : Ok a) (w : Nat) (b : Option (List Ref)) (l : List Ref) (hb : b.getD [] = l) (hm : a.many = (w + l.length : Nat)) (hit : ∀ j (hj : j < l.length), item a (w + j) = l[j]) (o0 o1 o2 o4 : Ob) (t5 : D) {X : Type} (K : Ex × St → Option X) (x : X) :
    ∀ (i : Nat) (H : List Ob) (σ : Nat → D), i ≤ l.length → Keep H o0 o1 o2 o4 → H[3]? = some ⟨0, 4, [encRing (cutTo a (w + i))], 0⟩ →
    σ 1 = encS b → σ 2 = .ptr 0 0 0 0 → σ 5 = t5 → σ 6 = .ptr 2 0 0 0 → σ 8 = .ptr 3 0 0 0 → σ 9 = .ptr 4 0 0 0 → σ 10 = I ((i : Int) - 1) →
    (∀ σ' H', Keep H' o0 o1 o2 o4 → H'[3]? = some ⟨0, 4, [encRing (cutTo a w)], 0⟩ → σ' 1 = encS b → σ' 2 = .ptr 0 0 0 0 → σ' 5 = t5 → σ' 6 = .ptr 2 0 0 0 → σ' 8 = .ptr 3 0 0 0 → σ' 9 = .ptr 4 0 0 0 → K (.exit 0, ⟨σ', H', 157⟩) = some x) →
    (W Try.prog cfg (.loop (loopAt Try.f5 9)) ⟨σ, H, 157⟩).bind K = some x
  | 0, H, σ, hi, k, h3, s1, s2, s5, s6, s8, s9, s10, hK => by
    rw [Wloop]
    conv => lhs; arg 1; arg 1; simp [loopAt, loopIn, headId, Try.f5, s10]
    exact hK _ H k h3 (by simp [s1]) (by simp [s2]) (by simp [s5]) (by simp [s6]) (by simp [s8]) (by simp [s9])
  | i + 1, H, σ, hi, k, h3, s1, s2, s5, s6, s8, s9, s10, hK => by
    have hlt := k.lt
    have := h.h2; have := h.h3; have := h.h7
    have hp := pop_ok (cutTo_ok h (w + (i + 1)) (by omega)) (by show ((w + (i + 1) : Nat) : Int) ≠ 0; omega)
    rw [show w + (i + 1) = (w + i) + 1 by omega, popped_cut, item_cut, show (cutTo a (w + i + 1)).many.toNat - 1 = w + i by show ((w + i + 1 : Nat) : Int).toNat - 1 = _; omega, hit i (by omega)] at hp
    rw [show w + (i + 1) = (w + i) + 1 by omega] at h3
    have hix := ix_encS b i (by rw [hb]; omega)
    rw [hb, show ((i : Int).toNat) = i by simp] at hix
    have hg : l[i]? = some l[i] := List.getElem?_eq_getElem (by omega)
    have e10 : ((i + 1 : Nat) : Int) - 1 = i := by omega
    rw [e10] at s10
    have hge : decide ((0 : Int) ≤ i) = true := decide_eq_true (by omega)
    have hwr : IntKind.i64.wrap ((i : Int) - 1) = (i : Int) - 1 := IntWalk.i64_in _ (by omega)
    have g3 : ∀ t, (H ++ t)[3]? = some ⟨0, 4, [encRing (cutTo a (w + i + 1))], 0⟩ := fun t => by rw [get_lt (by omega), h3]
    have sl3 : ∀ t o, (H ++ t).set 3 o = H.set 3 o ++ t := fun t o => set_lt (by omega) o
    have hd := dr5_12
    simp [opsAt, opsIn, Try.f5] at hd
    have hdw := Wdraw0 hd
    clear hd
    generalize cutTo a (w + i + 1) = c1 at *
    rw [Wloop]
    conv => lhs; arg 1; arg 1; simp [loopAt, loopIn, headId, Try.f5, s1, s8, s10, hge, hdw, h3, hp, hix, hg, hwr, get_app, get_app0, set_app, set_app0, g3, sl3, neq_ref]
    rw [Option.bind_some, loopK_normal]
    refine ends_pops a h w b l hb hm hit o0 o1 o2 o4 t5 K x i _ _ (by omega) (k.next _ _) ?_ (by simp [s1]) (by simp [s2]) (by simp [s5]) (by simp [s6]) (by simp [s8]) (by simp [s9]) (by simp) hK
    rw [List.getElem?_append_left (by simp; omega), List.getElem?_set_self (by omega)]
end Go.Proofs.YtclfpfdpaigdiaaW.Rg
