/- A runner's method: plain. No conditions. -/
import Derived.Test.YtghidjgejmmcmaaVmG8
set_option linter.unusedVariables false
set_option linter.unusedSimpArgs false
namespace Go.Proofs.YtghidjgejmmcmaaW.Rg
open Go.Proofs.YtghidjgejmmcmaaW.Vm Go.Proofs.YtghidjgejmmcmaaW.Md
open Go Go.Proofs
section
variable {B H : List Ob} {r : Nat} {f : Fr} {P : D} {x : Instr} {c : Ac} {S L Z A : D}
@[simp] theorem beq_own (z i v o l) : beq (.own z i v o l) (.own z i v o l) = true := by simp [beq]
@[simp] theorem beq_ptr (i v a b) : beq (.ptr i v a b) (.ptr i v a b) = true := by simp [beq]
/-- one value is taken off -/
theorem pop1 (h : Rn B H r f P x c S L Z A) (h1 : 1 ≤ f.stack.length) (hl : f.stack.length ≤ 2 ^ 40) : ∃ H1 S1 id ver rest, body Try.prog R 33 [.ptr r 0 0 0, I 1] H = some (.own 2 id ver 0 1, H1) ∧ Rn B H1 r (popF f 1) P x c S1 L Z A ∧
    H1[id]? = some ⟨ver, 2, encV (a0 f 1) :: rest, 0⟩ ∧ topV f 1 = [a0 f 1] ∧ H.length ≤ id := by
  obtain ⟨H1, S1, d, e1, R1, i1, g1, _⟩ := pop_spec h 1 h1 hl
  have htl : (topV f 1).length = 1 := by unfold topV; simp; omega
  obtain ⟨u, huv⟩ : ∃ u, topV f 1 = [u] := by
    match hq : topV f 1, htl with
    | [a], _ => exact ⟨a, rfl⟩
  have ha0 : a0 f 1 = u := by unfold a0; rw [huv]; rfl
  rw [huv] at i1
  obtain ⟨id, ver, rest, rfl, hh, hel, hix⟩ := i1.ix (t := 28) un28 sz33 (i := 0) (by simp)
  rw [ha0]
  exact ⟨H1, S1, id, ver, rest, e1, R1, hh, huv, g1 id rfl⟩
set_option maxHeartbeats 1600000 in
theorem plain_spec (h : Rn B H r f P x c S L Z A) (hc : c = acN 1) (hx : imay x = true) (hon : off6 x.op ≤ f.stack.length) (hloc : x.op = 1 ∨ x.op = 2 → x.a < f.locals.length) (hl : f.stack.length ≤ 2 ^ 40) (hpc : 0 ≤ f.pc ∧ f.pc < 2 ^ 62)
    (hop : ¬ (x.op = 16 ∨ x.op = 15 ∨ x.op = 13 ∨ x.op = 14 ∨ x.op = 3 ∨ x.op = 4 ∨ x.op = 5 ∨ x.op = 6)) :
    ∃ H' S' A', body Try.prog R 37 [.ptr r 0 0 0] H = some (.tup [], H') ∧ Rn B H' r (plainF f x).1 P x (plainF f x).2 S' L Z A' := by
  have hi := imay_iff.1 hx
  have ho := h.o; have hlt := h.lt; have hg := h.get
  have hw : IntKind.i64.wrap (f.pc + 1) = f.pc + 1 := wr (by omega) (by omega)
  have y0 : idxD 1 (D.int .i64 0) = some 0 := rfl
  have d3 := dr37_3; have d5 := dr37_5; have d7 := dr37_7; have d22 := dr37_22
  simp [opsAt, opsIn, Try.f37] at d3 d5 d7 d22
  have w3 := Wdraw d3; have w5 := Wdraw d5; have w7 := Wdraw d7; have w22 := Wdraw d22
  clear d3 d5 d7 d22
  unfold plainF
  by_cases o0 : x.op = 0
  · rw [if_pos o0]
    obtain ⟨H2, S2, e2, R2⟩ := push_spec h [ofG x.a x.b] (.sl 2 [encV (ofG x.a x.b)] false) (by simp) (by simp) hl (by simp)
    have hO := Of_spec x.a x.b
    have ho2 := R2.o; have hlt2 := R2.lt
    refine ⟨_, S2, A, ?_, R2.upd (nextF (pushF f [ofG x.a x.b])) x (acN 1) A rfl rfl rfl (.inr ⟨rfl, by rw [hc]⟩)⟩
    rw [body_eq Try.func37 rfl rfl]
    simp [argsσ, Vm.results, ho, hlt, op_nilp, o0, hw, w3, hO, e2, ho2, gs0 hlt2, hc, logL, loud, isE, drawChk, nextF, pushF, -getElem?_pos] <;> simp only [rnC, o0]
  rw [if_neg o0]
  by_cases o1 : x.op = 1
  · rw [if_pos o1]
    have hl1 := hloc (.inl o1)
    obtain ⟨n, hn⟩ : ∃ n : Nat, x.a = n := ⟨x.a.toNat, by unfold leastA at hi; rw [if_neg (by omega)] at hi; omega⟩
    have hnl : n < f.locals.length := by omega
    obtain ⟨id, ver, rest, rfl, hh, hel, hix⟩ := h.l.ix (t := 28) un28 sz33 hnl
    have yi := idxD_nat .i64 hnl
    have hv : (f.locals[x.a.toNat]?).getD v0 = f.locals[n] := by rw [hn]; simp [hnl]
    rw [hv]
    generalize f.locals[n] = v at *
    obtain ⟨H2, S2, e2, R2⟩ := push_spec h [v] (.sl 2 [encV v] false) (by simp) (by simp) hl (by simp)
    have ho2 := R2.o; have hlt2 := R2.lt
    refine ⟨_, S2, A, ?_, R2.upd (nextF (pushF f [v])) x (acN 1) A rfl rfl rfl (.inr ⟨rfl, by rw [hc]⟩)⟩
    rw [body_eq Try.func37 rfl rfl]
    simp [argsσ, Vm.results, ho, hlt, op_nilp, o1, hn, yi, hh, hel, hw, w5, e2, ho2, gs0 hlt2, hc, logL, loud, isE, drawChk, nextF, pushF, -getElem?_pos] <;> simp only [rnC, o1, hn]
  rw [if_neg o1]
  by_cases o2 : x.op = 2
  · rw [if_pos o2]
    have hl1 := hloc (.inr o2)
    obtain ⟨n, hn⟩ : ∃ n : Nat, x.a = n := ⟨x.a.toNat, by unfold leastA at hi; rw [if_neg (by omega)] at hi; omega⟩
    have hnl : n < f.locals.length := by omega
    obtain ⟨id, ver, rest, rfl, hh, hel, hix⟩ := h.l.ix (t := 28) un28 sz33 hnl
    have yi := idxD_nat .i64 hnl
    obtain ⟨H1, S1, id1, ver1, rest1, e1, R1, hh1, _, hid1⟩ := pop1 h (by unfold off6 at hon; simp [o2] at hon; omega) hl
    obtain ⟨rest2, hh2⟩ : ∃ rest2, H1[id]? = some ⟨ver, 2, f.locals.map encV ++ rest2, 0⟩ := by
      rcases R1.l with ⟨e, _⟩ | ⟨e, _⟩ | ⟨i, v, rest2, e, hh2⟩
      · cases e
      · cases e
      · simp only [D.own.injEq] at e
        obtain ⟨_, rfl, rfl, _⟩ := e
        exact ⟨rest2, hh2⟩
    generalize a0 f 1 = u at *
    have R2 := R1.setL hh2 n hnl u x.a (by omega)
    have ho1 := R1.o; have hlt1 := R1.lt
    have ho2 := R2.o; have hlt2 := R2.lt
    have hge : (f.locals.map encV ++ rest2)[n]? = some (encV f.locals[n]) := by
      rw [List.getElem?_append_left (by simpa using hnl)]; simp [hnl]
    generalize hG : H1.set id ⟨ver, 2, ((popF f 1).locals.map encV ++ rest2).set n (encV u), 0⟩ = G at *
    have hG' : H1.set id ⟨ver, 2, (f.locals.map encV ++ rest2).set n (.agg [I u.re, I u.im]), 0⟩ = G := hG
    refine ⟨_, S1, A, ?_, R2.upd (nextF (popF { f with locals := f.locals.set x.a.toNat u } 1)) x (acN 1) A rfl rfl rfl (.inr ⟨rfl, by rw [hc]⟩)⟩
    rw [body_eq Try.func37 rfl rfl]
    simp [argsσ, Vm.results, ho, hlt, op_nilp, o2, hn, y0, yi, hh1, hh2, hge, hw, e1, w7, ho1, hG', ho2, gs0 hlt2, hc, logL, loud, isE, drawChk, nextF, popF, -getElem?_pos] <;> simp only [rnC, o2, hn]
  rw [if_neg o2]
  by_cases o7 : x.op = 7
  · rw [if_pos o7]
    obtain ⟨H1, S1, id, ver, rest, e1, R1, hh, _⟩ := pop1 h (by unfold off6 at hon; simp [o7] at hon; omega) hl
    have hC := Conj_spec (a0 f 1)
    generalize a0 f 1 = u at *
    obtain ⟨H2, S2, e2, R2⟩ := push_spec R1 [conjG u] (.sl 2 [encV (conjG u)] false) (by simp) (by simp) (by unfold popF; simp; omega) (by simp)
    have ho2 := R2.o; have hlt2 := R2.lt
    refine ⟨_, S2, A, ?_, R2.upd (nextF (pushF (popF f 1) [conjG u])) x (acN 1) A rfl rfl rfl (.inr ⟨rfl, by rw [hc]⟩)⟩
    rw [body_eq Try.func37 rfl rfl]
    simp [argsσ, Vm.results, ho, hlt, op_nilp, o7, y0, hh, hw, e1, hC, e2, ho2, gs0 hlt2, hc, nextF, pushF, popF, -getElem?_pos] <;> simp only [rnC, o7]
  rw [if_neg o7]
  by_cases o8 : x.op = 8
  · rw [if_pos o8]
    obtain ⟨H1, S1, id, ver, rest, e1, R1, hh, _⟩ := pop1 h (by unfold off6 at hon; simp [o8] at hon; omega) hl
    generalize a0 f 1 = u at *
    obtain ⟨H2, S2, e2, R2⟩ := push_spec (R1.app [⟨0, 2, [encV u], 0⟩]) [u, u] (.sl 2 [encV u, encV u] false) (by simp) (by simp) (by unfold popF; simp; omega) (by simp)
    have ho2 := R2.o; have hlt2 := R2.lt
    refine ⟨_, S2, A, ?_, R2.upd (nextF (pushF (popF f 1) [u, u])) x (acN 1) A rfl rfl rfl (.inr ⟨rfl, by rw [hc]⟩)⟩
    rw [body_eq Try.func37 rfl rfl]
    simp [argsσ, Vm.results, ho, hlt, op_nilp, o8, y0, hh, hw, e1, e2, ho2, gs0 hlt2, hc, nextF, pushF, popF, -getElem?_pos] <;> simp only [rnC, o8]
  rw [if_neg o8]
  by_cases o9 : x.op = 9
  · rw [if_pos o9]
    obtain ⟨H1, S1, id, ver, rest, e1, R1, hh, _⟩ := pop1 h (by unfold off6 at hon; simp [o9] at hon; omega) hl
    have ho2 := R1.o; have hlt2 := R1.lt
    refine ⟨_, S1, A, ?_, R1.upd (nextF (popF f 1)) x (acN 1) A rfl rfl rfl (.inr ⟨rfl, by rw [hc]⟩)⟩
    rw [body_eq Try.func37 rfl rfl]
    simp [argsσ, Vm.results, ho, hlt, op_nilp, o9, hw, e1, ho2, gs0 hlt2, hc, nextF, pushF, popF, -getElem?_pos] <;> simp only [rnC, o9]
  rw [if_neg o9]
  by_cases o10 : x.op = 10
  · rw [if_pos o10]
    refine ⟨_, S, A, ?_, h.upd { f with pc := x.a } x (acN 1) A rfl rfl rfl (.inr ⟨rfl, by rw [hc]⟩)⟩
    rw [body_eq Try.func37 rfl rfl]
    simp [argsσ, Vm.results, ho, hlt, op_nilp, o10, hw, gs0 hlt, hc, -getElem?_pos] <;> simp only [rnC, o10]
  rw [if_neg o10]
  by_cases o11 : x.op = 11
  · rw [if_pos o11]
    obtain ⟨H1, S1, id, ver, rest, e1, R1, hh, _⟩ := pop1 h (by unfold off6 at hon; simp [o11] at hon; omega) hl
    have hO := Of_spec (a0 f 1).re (a0 f 1).im
    have hq : ∀ s t, binD Try.prog .eql 33 s t (encV (ofG (a0 f 1).re (a0 f 1).im)) (.agg [I 0, I 0]) = some (.bool (decide (ofG (a0 f 1).re (a0 f 1).im = v0))) := fun s t => eq_val s t (ofG (a0 f 1).re (a0 f 1).im) v0
    have er : (a0 f 1).red = ofG (a0 f 1).re (a0 f 1).im := rfl
    rw [er]
    generalize a0 f 1 = u at *
    have ho2 := R1.o; have hlt2 := R1.lt; have hg2 := R1.get
    cases k : decide (ofG u.re u.im = v0)
    · rw [if_neg (of_decide_eq_false k)]
      refine ⟨_, S1, A, ?_, (R1.upd (nextF (popF f 1)) x (acN 1) A rfl rfl rfl (.inr ⟨rfl, by rw [hc]⟩)).app [⟨0, 2, [encV u], 0⟩]⟩
      rw [k] at hq
      rw [body_eq Try.func37 rfl rfl]
      simp [argsσ, Vm.results, ho, hlt, op_nilp, o11, y0, hh, hw, e1, hO, hq, ho2, hg2, hlt2, gs0 hlt2, stA hlt2, gsA hlt2, ssA hlt2, hc, nextF, pushF, popF, -getElem?_pos] <;> simp only [rnC, o11]
    · rw [if_pos (of_decide_eq_true k)]
      refine ⟨_, S1, A, ?_, (R1.upd { popF f 1 with pc := x.a } x (acN 1) A rfl rfl rfl (.inr ⟨rfl, by rw [hc]⟩)).app [⟨0, 2, [encV u], 0⟩]⟩
      rw [k] at hq
      rw [body_eq Try.func37 rfl rfl]
      simp [argsσ, Vm.results, ho, hlt, op_nilp, o11, y0, hh, hw, e1, hO, hq, ho2, hg2, hlt2, gs0 hlt2, stA hlt2, gsA hlt2, ssA hlt2, hc, nextF, pushF, popF, -getElem?_pos] <;> simp only [rnC, o11]
  rw [if_neg o11]
  have o12 : x.op = 12 := by omega
  obtain ⟨H2, S2, e2, R2⟩ := push_spec h [drawV f.seed f.draws] (.sl 2 [encV (drawV f.seed f.draws)] false) (by simp) (by simp) hl (by simp)
  have hO : fnc Try.prog cfg R 68 [I f.seed, I f.draws] = some (encV (drawV f.seed f.draws)) := Draw_spec f.seed f.draws
  have ho2 := R2.o; have hlt2 := R2.lt
  refine ⟨_, S2, A, ?_, R2.upd (nextF { pushF f [drawV f.seed f.draws] with draws := IntKind.i64.wrap (f.draws + 1) }) x (acN 1) A rfl rfl rfl (.inr ⟨rfl, by rw [hc]⟩)⟩
  generalize drawV f.seed f.draws = v at *
  rw [body_eq Try.func37 rfl rfl]
  simp [argsσ, Vm.results, ho, hlt, op_nilp, o12, hw, w22, hO, e2, ho2, gs0 hlt2, hc, logL, loud, isE, drawChk, nextF, pushF, -getElem?_pos] <;> simp only [rnC, o12]
end
end Go.Proofs.YtghidjgejmmcmaaW.Rg
