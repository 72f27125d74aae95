import Derived.Test.YtclfpfdpaigdiaaVmREnds
set_option linter.unusedVariables false
set_option linter.unusedSimpArgs false
namespace Go.Proofs.YtclfpfdpaigdiaaW.Rg
open Go.Proofs.YtclfpfdpaigdiaaW.Vm
open Go Go.Proofs
structure Keep3 (H : List Ob) (o0 o1 o2 o3 : Ob) : Prop where
  h0 : H[0]? = some o0
  h1 : H[1]? = some o1
  h2 : H[2]? = some o2
  h3 : H[3]? = some o3
theorem Keep3.next {H o0 o1 o2 o3} (k : Keep3 H o0 o1 o2 o3) (hl : 4 < H.length) (l : List Ob) (o : Ob) : Keep3 (H.set 4 o ++ l) o0 o1 o2 o3 := by
  refine ⟨?_, ?_, ?_, ?_⟩ <;> rw [List.getElem?_append_left (by simp; omega), List.getElem?_set_ne (by omega)]
  · exact k.h0
  · exact k.h1
  · exact k.h2
  · exact k.h3
theorem ends_steals (a : Ring) (h : Ok a) (w v : Nat) (its : List Ref) (hw : its.length = w) (b : Option (List Ref)) (l : List Ref) (hb : b.getD [] = l) (hm : a.many = (w + l.length : Nat)) (hit1 : ∀ j (hj : j < its.length), item a j = its[j]) (hit2 : ∀ j (hj : j < l.length), item a (w + j) = l[j]) (o0 o2 o3 : Ob) {X : Type} (K : Ex × St → Option X) (x : X) :
    ∀ (m i : Nat) (H : List Ob) (σ : Nat → D), i + m = w + l.length → Keep3 H o0 ⟨v, 2, its.map encRef, 0⟩ o2 o3 → H[4]? = some ⟨0, 4, [encRing (st a i)], 0⟩ →
    σ 1 = encS b → σ 2 = .ptr 0 0 0 0 → σ 5 = .own 2 1 v 0 w → σ 6 = .ptr 2 0 0 0 → σ 8 = .ptr 3 0 0 0 → σ 9 = .ptr 4 0 0 0 → σ 14 = I i →
    (∀ σ' H', Keep3 H' o0 ⟨v, 2, its.map encRef, 0⟩ o2 o3 → H'[4]? = some ⟨0, 4, [encRing (st a (w + l.length))], 0⟩ → σ' 1 = encS b → σ' 2 = .ptr 0 0 0 0 → σ' 5 = .own 2 1 v 0 w → σ' 6 = .ptr 2 0 0 0 → σ' 8 = .ptr 3 0 0 0 → σ' 9 = .ptr 4 0 0 0 → K (.exit 2, ⟨σ', H', 157⟩) = some x) →
    (W Try.prog cfg (.loop (loopAt Try.f5 16)) ⟨σ, H, 157⟩).bind K = some x
  | 0, i, H, σ, hi, k, h4, s1, s2, s5, s6, s8, s9, s14, hK => by
    obtain rfl : i = w + l.length := by omega
    have := h.h2; have := h.h3; have := h.h7
    have hwr : IntKind.i64.wrap ((w : Int) + l.length) = (w : Int) + l.length := IntWalk.i64_in _ (by omega)
    have e : decide ((w : Int) + l.length < (w : Int) + l.length) = false := decide_eq_false (by omega)
    rw [Wloop]
    rw [show ((w + l.length : Nat) : Int) = (w : Int) + l.length by simp] at s14
    conv => lhs; arg 1; arg 1; simp [loopAt, loopIn, headId, Try.f5, s1, s5, s14, hb, hwr, e]
    exact hK _ H k h4 (by simp [s1]) (by simp [s2]) (by simp [s5]) (by simp [s6]) (by simp [s8]) (by simp [s9])
  | m + 1, i, H, σ, hi, k, h4, s1, s2, s5, s6, s8, s9, s14, hK => by
    have hlt : 4 < H.length := by
      rcases Nat.lt_or_ge 4 H.length with h | h
      · exact h
      · rw [List.getElem?_eq_none h] at h4; cases h4
    have := h.h1; have := h.h2; have := h.h3; have := h.h7
    have hwr : IntKind.i64.wrap ((w : Int) + l.length) = (w : Int) + l.length := IntWalk.i64_in _ (by omega)
    have hwi : IntKind.i64.wrap ((i : Int) + 1) = (i : Int) + 1 := IntWalk.i64_in _ (by omega)
    have e0 : decide ((i : Int) < (w : Int) + l.length) = true := decide_eq_true (by omega)
    obtain ⟨oki, mi⟩ := st_ok h i (by omega)
    have hs := steal_ok oki (by omega)
    rw [show stolen (st a i) = st a (i + 1) from rfl, item_st a (by omega)] at hs
    have g4 : ∀ t, (H ++ t)[4]? = some ⟨0, 4, [encRing (st a i)], 0⟩ := fun t => by rw [get_lt hlt, h4]
    have sl4 : ∀ t o, (H ++ t).set 4 o = H.set 4 o ++ t := fun t o => set_lt hlt o
    have g1 : ∀ t, (H ++ t)[1]? = some ⟨v, 2, its.map encRef, 0⟩ := fun t => by rw [get_lt (by omega), k.h1]
    have hd := dr5_19
    simp [opsAt, opsIn, Try.f5] at hd
    have hdw := Wdraw0 hd
    clear hd
    by_cases hiw : i < w
    · have e1 : decide ((i : Int) < w) = true := decide_eq_true (by omega)
      have e1' : decide ((w : Int) ≤ i) = false := decide_eq_false (by omega)
      have e2 : decide (i < w) = true := decide_eq_true hiw
      have e2' : decide (w ≤ i) = false := decide_eq_false (by omega)
      have hii := ix_own (P := Try.prog) un22 sz33 1 v 0 w .i64 i (by omega)
      rw [show (0 + (i : Int).toNat) = i by simp] at hii
      have hg : its[i]? = some its[i] := List.getElem?_eq_getElem (by omega)
      rw [show item a (i + 0) = item a i from rfl, hit1 i (by omega)] at hs
      rw [Wloop]
      conv => lhs; arg 1; arg 1; simp [loopAt, loopIn, headId, Try.f5, s1, s5, s9, s14, hb, hwr, hwi, e0, e1, e1', e2, e2', hdw, h4, hs, hii, hg, get_app, get_app0, set_app, set_app0, g4, g1, sl4, neq_ref, List.getElem?_cons_zero, List.getElem?_cons_succ, -getElem?_pos]
      rw [Option.bind_some, loopK_normal]
      refine ends_steals a h w v its hw b l hb hm hit1 hit2 o0 o2 o3 K x m (i + 1) _ _ (by omega) (k.next hlt _ _) ?_ (by simp [s1]) (by simp [s2]) (by simp [s5]) (by simp [s6]) (by simp [s8]) (by simp [s9]) (by simp) hK
      rw [List.getElem?_append_left (by simp; omega), List.getElem?_set_self (by omega)]
    · have e1 : decide ((i : Int) < w) = false := decide_eq_false (by omega)
      have e1' : decide ((w : Int) ≤ i) = true := decide_eq_true (by omega)
      have e2 : decide (i < w) = false := decide_eq_false hiw
      have e2' : decide (w ≤ i) = true := decide_eq_true (by omega)
      obtain ⟨j, rfl⟩ : ∃ j, i = w + j := ⟨i - w, by omega⟩
      have hws : IntKind.i64.wrap (((w + j : Nat) : Int) - w) = j := by rw [IntWalk.i64_in _ (by omega)]; omega
      have hix := ix_encS b j (by rw [hb]; omega)
      rw [hb, show ((j : Int).toNat) = j by simp] at hix
      have hg : l[j]? = some l[j] := List.getElem?_eq_getElem (by omega)
      rw [show item a (w + j + 0) = item a (w + j) from rfl, hit2 j (by omega)] at hs
      obtain ⟨I0, hI⟩ : ∃ I0 : Int, ((w + j : Nat) : Int) = I0 := ⟨_, rfl⟩
      rw [hI] at s14 hwi e0 e1 e1' hws
      rw [Wloop]
      conv => lhs; arg 1; arg 1; simp [loopAt, loopIn, headId, Try.f5, s1, s5, s9, s14, hb, hwr, hwi, hws, e0, e1, e1', hdw, h4, hs, hix, hg, get_app, get_app0, set_app, set_app0, g4, g1, sl4, neq_ref, List.getElem?_cons_zero, List.getElem?_cons_succ, -getElem?_pos]
      rw [Option.bind_some, loopK_normal]
      refine ends_steals a h w v its hw b l hb hm hit1 hit2 o0 o2 o3 K x m (w + j + 1) _ _ (by omega) (k.next hlt _ _) ?_ (by simp [s1]) (by simp [s2]) (by simp [s5]) (by simp [s6]) (by simp [s8]) (by simp [s9]) (by simp [← hI]) hK
      rw [List.getElem?_append_left (by simp; omega), List.getElem?_set_self (by omega)]
end Go.Proofs.YtclfpfdpaigdiaaW.Rg
