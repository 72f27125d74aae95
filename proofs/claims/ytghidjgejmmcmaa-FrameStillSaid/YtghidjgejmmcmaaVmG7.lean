/- A runner's methods: there, two. No conditions. -/
import Derived.Test.YtghidjgejmmcmaaVmG6
set_option linter.unusedVariables false
set_option linter.unusedSimpArgs false
namespace Go.Proofs.YtghidjgejmmcmaaW.Rg
open Go.Proofs.YtghidjgejmmcmaaW.Vm Go.Proofs.YtghidjgejmmcmaaW.Md
open Go Go.Proofs
section
variable {B H : List Ob} {r : Nat} {f : Fr} {P : D} {x : Instr} {c : Ac} {S L Z A : D}
theorem there_none (p : Option (List Fu)) (code : Option (List Instr)) (h : Rn B H r f (encProg p) x c S L Z A) (hpc : f.pc < 0 ∨ ((code.getD []).length : Int) ≤ f.pc) :
    body Try.prog R 29 [.ptr r 0 0 0, encCode code] H = some (.bool false, H) := by
  have ho := h.o
  rw [body_eq Try.func29 rfl rfl]
  cases c1 : decide (f.pc < 0)
  · have c2 : decide (((code.getD []).length : Int) ≤ f.pc) = true := dt (by have := of_decide_eq_false c1; omega)
    simp [argsσ, Vm.results, ho, c1, c2, op_nilp, -getElem?_pos]
  · simp [argsσ, Vm.results, ho, c1, op_nilp, -getElem?_pos]
theorem there_some (p : Option (List Fu)) (code : Option (List Instr)) (h : Rn B H r f (encProg p) x c S L Z A) (n : Nat) (hpc : f.pc = n) (y : Instr) (hy : (code.getD [])[n]? = some y) :
    ∃ H' x', body Try.prog R 29 [.ptr r 0 0 0, encCode code] H = some (.bool (thereX (p.getD []) f y), H') ∧ Rn B H' r f (encProg p) x' c S L Z A ∧ (thereX (p.getD []) f y = true → x' = y) := by
  have ho := h.o; have hlt := h.lt
  obtain ⟨l1, l2, l3⟩ := h.sOne
  have hn : n < (code.getD []).length := (List.getElem?_eq_some_iff.1 hy).1
  have hix := idxD_nat .i64 hn
  have c1 : decide ((n : Int) < 0) = false := df (by omega)
  have c2 : decide ((code.getD []).length ≤ n) = false := df (by omega)
  have hM := opmay_spec y
  have hR := h.upd f y c A rfl rfl rfl (.inr ⟨rfl, rfl⟩)
  have ho2 := gs0 hlt ⟨0, 25, [rnC f S L Z (encProg p) y c A], 0⟩
  have hdw : ∀ k, k = 7 ∨ k = 9 ∨ k = 11 → drawInfo Try.prog cfg (opsAt Try.f29 k) = some [] := by
    rintro k (rfl | rfl | rfl)
    · exact dr29_7
    · exact dr29_9
    · exact dr29_11
  have d7 := hdw 7 (by simp); have d9 := hdw 9 (by simp); have d11 := hdw 11 (by simp)
  simp [opsAt, opsIn, Try.f29] at d7 d9 d11
  have w7 := Wdraw0 d7; have w9 := Wdraw0 d9; have w11 := Wdraw0 d11
  clear d7 d9 d11 hdw
  unfold thereX
  cases k0 : imay y
  · rw [k0] at hM
    refine ⟨H, x, ?_, h, by simp⟩
    rw [body_eq Try.func29 rfl rfl]
    simp [argsσ, Vm.results, ho, hpc, c1, c2, hix, hy, hM, op_nilp, -getElem?_pos]
  rw [k0] at hM
  refine ⟨_, y, ?_, hR, fun _ => rfl⟩
  rw [body_eq Try.func29 rfl rfl]
  by_cases o1 : y.op = 1 ∨ y.op = 2
  · rw [if_pos o1]
    cases k1 : decide (y.op = 1)
    · have k2 : decide (y.op = 2) = true := dt (by have := of_decide_eq_false k1; omega)
      cases q : decide (y.a < f.locals.length) <;> simp [argsσ, Vm.results, ho, ho2, hlt, gs0 hlt, hpc, c1, c2, hix, hy, hM, l1, l2, l3, k1, k2, q, w7, op_nilp, -getElem?_pos] <;> simp only [rnC, hpc]
    · cases q : decide (y.a < f.locals.length) <;> simp [argsσ, Vm.results, ho, ho2, hlt, gs0 hlt, hpc, c1, c2, hix, hy, hM, l1, l2, l3, k1, q, w7, op_nilp, -getElem?_pos] <;> simp only [rnC, hpc]
  have n1 : decide (y.op = 1) = false := df (by omega)
  have n2 : decide (y.op = 2) = false := df (by omega)
  rw [if_neg o1]
  by_cases o2 : y.op = 14
  · rw [if_pos o2]
    have k3 : decide (y.op = 14) = true := dt o2
    cases q : decide (y.a < f.slots.length) <;> simp [argsσ, Vm.results, ho, ho2, hlt, gs0 hlt, hpc, c1, c2, hix, hy, hM, l1, l2, l3, n1, n2, k3, q, w9, op_nilp, -getElem?_pos] <;> simp only [rnC, hpc]
  have n3 : decide (y.op = 14) = false := df o2
  rw [if_neg o2]
  by_cases o3 : y.op = 13
  · rw [if_pos o3]
    have k4 : decide (y.op = 13) = true := dt o3
    cases q : decide (y.a < (p.getD []).length)
    · simp [argsσ, Vm.results, ho, ho2, hlt, gs0 hlt, hpc, c1, c2, hix, hy, hM, l1, l2, l3, n1, n2, n3, k4, q, w11, op_nilp, -getElem?_pos] <;> simp only [rnC, hpc]
    · cases q2 : decide (y.b < f.slots.length) <;> simp [argsσ, Vm.results, ho, ho2, hlt, gs0 hlt, hpc, c1, c2, hix, hy, hM, l1, l2, l3, n1, n2, n3, k4, q, q2, w11, op_nilp, -getElem?_pos] <;> simp only [rnC, hpc]
  have n4 : decide (y.op = 13) = false := df o3
  rw [if_neg o3]
  simp [argsσ, Vm.results, ho, ho2, hlt, gs0 hlt, hpc, c1, c2, hix, hy, hM, l1, l2, l3, n1, n2, n3, n4, op_nilp, -getElem?_pos] <;> simp only [rnC, hpc]
/-- elements of a slice of one's own -/
theorem IsS.ix {α : Type} {e : α → D} {z : Nat} {l : List α} {d : D} (h : IsS H z (l.map e) d) {t el : Nat} (hu : Try.prog.underlying t = some (.slice el)) (hs : szT Try.prog el = some z) {i : Nat} (hi : i < l.length) :
    ∃ id ver rest, d = .own z id ver 0 l.length ∧ H[id]? = some ⟨ver, z, l.map e ++ rest, 0⟩ ∧ (l.map e ++ rest)[i]? = some (e l[i]) ∧ indexAddrD Try.prog t d (I i) = some (.ptr id ver i 0) := by
  rcases h with ⟨rfl, hx⟩ | ⟨rfl, hx⟩ | ⟨id, ver, rest, rfl, hh⟩
  · have hx : l = [] := by simpa using hx
    subst hx; simp at hi
  · have hx : l = [] := by simpa using hx
    subst hx; simp at hi
  · refine ⟨id, ver, rest, by simp, hh, ?_, ?_⟩
    · rw [List.getElem?_append_left (by simpa using hi)]; simp [hi]
    · have := ix_own hu hs id ver 0 (l.map e).length .i64 i ⟨by omega, by simp; omega⟩
      simpa using this
theorem two_spec (h : Rn B H r f P x c S L Z A) (hc : c = acN 1) (h2 : 2 ≤ f.stack.length) (hl : f.stack.length ≤ 2 ^ 40) (hpc : 0 ≤ f.pc ∧ f.pc < 2 ^ 62) (hx : x.op = 3 ∨ x.op = 4 ∨ x.op = 5 ∨ x.op = 6) :
    ∃ H' S' A', body Try.prog R 36 [.ptr r 0 0 0] H = some (.tup [], H') ∧ Rn B H' r (twoF f x).1 P x (twoF f x).2 S' L Z A' := by
  obtain ⟨H1, S1, d, e1, R1, i1, g1, _⟩ := pop_spec h 2 h2 hl
  rw [show ((2 : Nat) : Int) = 2 from rfl] at e1
  have htl : (topV f 2).length = 2 := by unfold topV; simp; omega
  obtain ⟨u, v, huv⟩ : ∃ u v, topV f 2 = [u, v] := by
    match hq : topV f 2, htl with
    | [a, b], _ => exact ⟨a, b, rfl⟩
  have ha0 : a0 f 2 = u := by unfold a0; rw [huv]; rfl
  have ha1 : a1 f 2 = v := by unfold a1; rw [huv]; rfl
  rw [huv] at i1
  obtain ⟨id, ver, rest, rfl, hh, hel, hix⟩ := i1.ix (t := 28) un28 sz33 (i := 0) (by simp)
  obtain ⟨_, _, _, hq, _, hel2, hix2⟩ := i1.ix (t := 28) un28 sz33 (i := 1) (by simp)
  have ho := R1.o; have hlt := R1.lt; have hg1 := R1.get
  have y0 : idxD 2 (D.int .i64 0) = some 0 := rfl
  have y1 : idxD 2 (D.int .i64 1) = some 1 := rfl
  have hidl := (List.getElem?_eq_some_iff.1 hh).1
  have hA := Add_spec u v; have hS := Sub_spec u v; have hM := Mul_spec u v; have hD := Div_spec u v
  have q3 : ∀ t, (H1 ++ t)[id]? = some ⟨ver, 2, [u, v].map encV ++ rest, 0⟩ := fun t => by rw [get_lt hidl, hh]
  have dw : ∀ k, k = 5 ∨ k = 7 ∨ k = 9 → True := fun _ _ => trivial
  have d5 := dr36_5; have d7 := dr36_7; have d9 := dr36_9; have d11 := dr36_11
  simp [opsAt, opsIn, Try.f36] at d5 d7 d9 d11
  have w5 := Wdraw d5; have w7 := Wdraw d7; have w9 := Wdraw d9; have w11 := Wdraw d11
  clear d5 d7 d9 d11 dw
  have hw : IntKind.i64.wrap (f.pc + 1) = f.pc + 1 := wr (by omega) (by omega)
  simp only [List.length_cons, List.length_nil, Nat.zero_add, Nat.reduceAdd] at *
  have fin : ∀ (w : Vl) (t : List Ob), ∃ H' S', body Try.prog R 61 [.ptr r 0 0 0, .sl 2 [encV w] false] (H1 ++ t) = some (.tup [], H') ∧ Rn B H' r (pushF (popF f 2) [w]) P x c S' L Z A := fun w t =>
    push_spec (R1.app t) [w] (.sl 2 [encV w] false) (by simp) (by simp) (by unfold popF; simp; omega) (by simp)
  unfold twoF
  rw [ha0, ha1]
  by_cases o6 : x.op = 6
  · rw [if_pos o6]
    cases hq : divG u v with
    | none =>
      rw [hq] at hD
      have i2 := i1.app [⟨0, 2, [encV ⟨0, 0⟩], 0⟩]
      obtain ⟨H2, S2, e2, R2⟩ := push_spec (R1.app [⟨0, 2, [encV ⟨0, 0⟩], 0⟩]) [u, v] (.own 2 id ver 0 2) (by rw [i2.els]) (by simp) (by unfold popF; simp; omega) (by simp)
      have hpp : pushF (popF f 2) [u, v] = f := by
        rw [← huv]; unfold pushF popF topV; simp
      rw [hpp] at R2
      obtain ⟨H3, e3, R3⟩ := trap_spec R2 1
      refine ⟨H3, S2, .snil, ?_, R3⟩
      rw [body_eq Try.func36 rfl rfl]
      simp [argsσ, Vm.results, e1, ho, hg1, hlt, y0, y1, o6, op_nilp, hix, hix2, q3, hD, w11, logL, loud, isE, drawChk, e2, e3, -getElem?_pos]
    | some q =>
      rw [hq] at hD
      obtain ⟨H2, S2, e2, R2⟩ := fin q [⟨0, 2, [encV q], 0⟩]
      have ho2 := R2.o; have hlt2 := R2.lt
      refine ⟨_, S2, A, ?_, R2.upd (nextF (pushF (popF f 2) [q])) x (acN 1) A rfl rfl rfl (.inr ⟨rfl, by rw [hc]⟩)⟩
      rw [body_eq Try.func36 rfl rfl]
      simp [argsσ, Vm.results, e1, ho, hg1, hlt, y0, y1, o6, op_nilp, hix, hix2, q3, hD, w11, logL, loud, isE, drawChk, e2, ho2, hlt2, gs0 hlt2, hw, hc, nextF, popF, pushF, -getElem?_pos] <;> simp only [rnC, o6]
  · rw [if_neg o6]
    by_cases o3 : x.op = 3
    · rw [if_pos o3]
      obtain ⟨H2, S2, e2, R2⟩ := fin (addG u v) [⟨0, 2, [encV (addG u v)], 0⟩]
      have ho2 := R2.o; have hlt2 := R2.lt
      refine ⟨_, S2, A, ?_, R2.upd (nextF (pushF (popF f 2) [addG u v])) x (acN 1) A rfl rfl rfl (.inr ⟨rfl, by rw [hc]⟩)⟩
      rw [body_eq Try.func36 rfl rfl]
      simp [argsσ, Vm.results, e1, ho, hg1, hlt, y0, y1, o3, op_nilp, hix, hix2, q3, hA, w5, logL, loud, isE, drawChk, e2, ho2, hlt2, gs0 hlt2, hw, hc, nextF, popF, pushF, -getElem?_pos] <;> simp only [rnC, o3]
    rw [if_neg o3]
    by_cases o4 : x.op = 4
    · rw [if_pos o4]
      obtain ⟨H2, S2, e2, R2⟩ := fin (subG u v) [⟨0, 2, [encV (subG u v)], 0⟩]
      have ho2 := R2.o; have hlt2 := R2.lt
      refine ⟨_, S2, A, ?_, R2.upd (nextF (pushF (popF f 2) [subG u v])) x (acN 1) A rfl rfl rfl (.inr ⟨rfl, by rw [hc]⟩)⟩
      rw [body_eq Try.func36 rfl rfl]
      simp [argsσ, Vm.results, e1, ho, hg1, hlt, y0, y1, o4, op_nilp, hix, hix2, q3, hS, w7, logL, loud, isE, drawChk, e2, ho2, hlt2, gs0 hlt2, hw, hc, nextF, popF, pushF, -getElem?_pos] <;> simp only [rnC, o4]
    rw [if_neg o4]
    have o5 : x.op = 5 := by omega
    obtain ⟨H2, S2, e2, R2⟩ := fin (mulG u v) [⟨0, 2, [encV (mulG u v)], 0⟩]
    have ho2 := R2.o; have hlt2 := R2.lt
    refine ⟨_, S2, A, ?_, R2.upd (nextF (pushF (popF f 2) [mulG u v])) x (acN 1) A rfl rfl rfl (.inr ⟨rfl, by rw [hc]⟩)⟩
    rw [body_eq Try.func36 rfl rfl]
    simp [argsσ, Vm.results, e1, ho, hg1, hlt, y0, y1, o5, op_nilp, hix, hix2, q3, hM, w9, logL, loud, isE, drawChk, e2, ho2, hlt2, gs0 hlt2, hw, hc, nextF, popF, pushF, -getElem?_pos] <;> simp only [rnC, o5]
end
end Go.Proofs.YtghidjgejmmcmaaW.Rg
