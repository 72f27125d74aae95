/- A runner's methods: push, off, room, there. No conditions. -/
import Derived.Test.YtghidjgejmmcmaaVmG5
set_option linter.unusedVariables false
set_option linter.unusedSimpArgs false
namespace Go.Proofs.YtghidjgejmmcmaaW.Rg
open Go.Proofs.YtghidjgejmmcmaaW.Vm Go.Proofs.YtghidjgejmmcmaaW.Md
open Go Go.Proofs
section
variable {B H : List Ob} {r : Nat} {f : Fr} {P : D} {x : Instr} {c : Ac} {S L Z A : D}
theorem push_spec (h : Rn B H r f P x c S L Z A) (vs : List Vl) (d : D) (hd : elsZ H 2 d = some (vs.map encV)) (hv : vs ≠ []) (hl : f.stack.length ≤ 2 ^ 40) (hvl : vs.length ≤ 2 ^ 40) :
    ∃ H' S', body Try.prog R 61 [.ptr r 0 0 0, d] H = some (.tup [], H') ∧ Rn B H' r (pushF f vs) P x c S' L Z A := by
  have hg := h.get; have ho := h.o; have hlt := h.lt
  have hrs := h.rs
  have hlen : (f.stack.map encV).length = f.stack.length := by simp
  have hvn : (vs.map encV).length ≠ 0 := by intro e; apply hv; simpa using e
  have hne : vs.length ≠ 0 := by simpa using hvn
  have cs := h.s
  have es := h.s.els
  have ao : ∀ h : List Ob, apK 16 2 h S (f.stack.map encV) (vs.map encV) = apN 2 h S (f.stack.map encV) (vs.map encV) := fun h => apK_ok (by simp; omega)
  rcases cs with ⟨rfl, hx⟩ | ⟨rfl, hx⟩ | ⟨id, ver, rest, rfl, hh⟩
  · have hx : f.stack = [] := by simpa using hx
    have e1 : pushF f vs = { f with stack := vs } := by unfold pushF; rw [hx]; rfl
    have ap : ∀ h : List Ob, apN 2 h .snil [] (vs.map encV) = some (.own 2 h.length 0 0 vs.length, h ++ [⟨0, 2, vs.map encV, 0⟩]) := by
      intro h; rw [apN_snil' hvn]; simp [newOb]
    rw [hx] at ao
    simp only [List.map_nil] at ao
    rw [e1]
    refine ⟨(H.set r ⟨0, 25, [rnC { f with stack := vs } (.own 2 H.length 0 0 vs.length) L Z P x c A], 0⟩) ++ [⟨0, 2, vs.map encV, 0⟩], .own 2 H.length 0 0 vs.length, ?_,
      h.restack _ _ _ rfl rfl (by simp) (fun i h1 h2 => List.getElem?_set_ne (Ne.symm h1)) (gs0 hlt _) (.inr (.inr ⟨H.length, 0, [], by simp, by simp⟩)) (fun i hi => .inr (by rw [at_own] at hi; omega))⟩
    rw [body_eq Try.func61 rfl rfl]
    simp [argsσ, Vm.results, hg, ho, hlt, gs0 hlt, gsA hlt, stA hlt, ssA hlt, op_nilp, -getElem?_pos, hd, ao, ap]
  · have hx : f.stack = [] := by simpa using hx
    have e1 : pushF f vs = { f with stack := vs } := by unfold pushF; rw [hx]; rfl
    have ap : ∀ h : List Ob, apN 2 h (.sl 2 [] true) [] (vs.map encV) = some (.own 2 h.length 0 0 vs.length, h ++ [⟨0, 2, vs.map encV, 0⟩]) := by
      intro h; rw [apN_sl' hvn]; simp [newOb]
    rw [hx] at ao
    simp only [List.map_nil] at ao
    rw [e1]
    refine ⟨(H.set r ⟨0, 25, [rnC { f with stack := vs } (.own 2 H.length 0 0 vs.length) L Z P x c A], 0⟩) ++ [⟨0, 2, vs.map encV, 0⟩], .own 2 H.length 0 0 vs.length, ?_,
      h.restack _ _ _ rfl rfl (by simp) (fun i h1 h2 => List.getElem?_set_ne (Ne.symm h1)) (gs0 hlt _) (.inr (.inr ⟨H.length, 0, [], by simp, by simp⟩)) (fun i hi => .inr (by rw [at_own] at hi; omega))⟩
    rw [body_eq Try.func61 rfl rfl]
    simp [argsσ, Vm.results, hg, ho, hlt, gs0 hlt, gsA hlt, stA hlt, ssA hlt, op_nilp, -getElem?_pos, hd, ao, ap]
  · rw [hlen] at *
    rw [at_own] at hrs
    have hid := (List.getElem?_eq_some_iff.1 hh).1
    have ap : apN 2 H (.own 2 id ver 0 f.stack.length) (f.stack.map encV) (vs.map encV) = some (.own 2 id (ver + 1) 0 (f.stack.length + vs.length), H.set id ⟨ver + 1, 2, f.stack.map encV ++ vs.map encV, 0⟩) := by
      rw [apN_own' hvn, hh, Option.bind_some, if_pos (by simp)]; simp
    have hr2 : (H.set id ⟨ver + 1, 2, f.stack.map encV ++ vs.map encV, 0⟩)[r]? = some ⟨0, 25, [rnC f (.own 2 id ver 0 f.stack.length) L Z P x c A], 0⟩ := by
      rw [List.getElem?_set_ne hrs, ho]
    have hlt2 : r < (H.set id ⟨ver + 1, 2, f.stack.map encV ++ vs.map encV, 0⟩).length := by simpa using hlt
    have R1 := h.restack (H' := (H.set id ⟨ver + 1, 2, f.stack.map encV ++ vs.map encV, 0⟩).set r ⟨0, 25, [rnC (pushF f vs) (.own 2 id (ver + 1) 0 (f.stack.length + vs.length)) L Z P x c A], 0⟩) (pushF f vs) (.own 2 id (ver + 1) 0 (f.stack.length + vs.length)) [] rfl rfl (by simp)
      (fun i h1 h2 => by rw [List.getElem?_set_ne (Ne.symm h1), List.getElem?_set_ne (by rw [at_own] at h2; exact h2)]) (gs0 hlt2 _)
      (.inr (.inr ⟨id, ver + 1, [], by unfold pushF; simp, by rw [List.append_nil, List.getElem?_set_ne (Ne.symm hrs), List.getElem?_set_self hid]; unfold pushF; simp⟩)) (fun i hi => .inl (by rw [at_own] at hi ⊢; exact hi))
    rw [List.append_nil] at R1
    refine ⟨_, _, ?_, R1⟩
    generalize hG : H.set id ⟨ver + 1, 2, f.stack.map encV ++ vs.map encV, 0⟩ = G at *
    rw [body_eq Try.func61 rfl rfl]
    simp [argsσ, Vm.results, hg, ho, hr2, hlt2, gs0 hlt2, op_nilp, -getElem?_pos, hd, ao, ap, es, pushF]
theorem Rn.sOne (h : Rn B H r f P x c S L Z A) : lenS S = some f.stack.length ∧ lenS L = some f.locals.length ∧ lenS Z = some f.slots.length := ⟨by rw [h.s.len]; simp, by rw [h.l.len]; simp, by rw [h.z.len]; simp⟩
theorem off_spec' (p : Option (List Fu)) (h : Rn B H r f (encProg p) x c S L Z A) (hx : imay x = true) (h13 : x.op = 13 → x.a < (p.getD []).length) :
    body Try.prog R 59 [.ptr r 0 0 0] H = some (I (offP (p.getD []) x), H) := by
  have ho := h.o; have hlt := h.lt
  have hi := imay_iff.1 hx
  have hS := stack_spec x.op ⟨by omega, by omega⟩
  have hd := dr59_2
  simp [opsAt, opsIn, Try.f59] at hd
  have hdw := Wdraw0 hd
  clear hd
  rw [body_eq Try.func59 rfl rfl]
  cases c1 : decide (x.op = 13)
  · have e : offP (p.getD []) x = off6 x.op := by unfold offP; rw [if_neg (of_decide_eq_false c1)]
    rw [e]
    simp [argsσ, Vm.results, ho, c1, hS, op_nilp, -getElem?_pos]
  · have h13' := of_decide_eq_true c1
    have h2 := h13 h13'
    have h3 : 0 ≤ x.a := by have := hi; unfold leastA at this; rw [if_neg (by omega)] at this; omega
    obtain ⟨m, hm⟩ : ∃ m : Nat, x.a = m := ⟨x.a.toNat, by omega⟩
    have hlt2 : m < (p.getD []).length := by omega
    have hix := idxD_nat .i64 hlt2
    have hg : (p.getD [])[m]? = some (p.getD [])[m] := List.getElem?_eq_getElem hlt2
    have e : offP (p.getD []) x = ((p.getD [])[m]).arity := by unfold offP; rw [if_pos h13', hm]; simp [hg]
    rw [e]
    generalize (p.getD [])[m] = f2 at hg
    simp [argsσ, Vm.results, ho, op_nilp, c1, hdw, hm, hix, hg, -getElem?_pos]
theorem room_spec (p : Option (List Fu)) (h : Rn B H r f (encProg p) x c S L Z A) (hx : imay x = true) (h13 : x.op = 13 → x.a < (p.getD []).length) (hl : f.stack.length ≤ 2 ^ 40) :
    body Try.prog R 31 [.ptr r 0 0 0] H = some (.bool (roomX (p.getD []) f x), H) := by
  have ho := h.o; have hlt := h.lt
  have hi := imay_iff.1 hx
  have hS := stack_spec x.op ⟨by omega, by omega⟩
  have hO := off_spec' p h hx h13
  have hn := on6_le x.op
  obtain ⟨l1, _, _⟩ := h.sOne
  rw [body_eq Try.func31 rfl rfl]
  unfold roomX
  generalize offP (p.getD []) x = o at *
  generalize hN : on6 x.op = N at *
  cases c1 : decide (0 ≤ o)
  · simp [argsσ, Vm.results, ho, c1, hS, hO, op_nilp, -getElem?_pos]
  cases c2 : decide (o ≤ f.stack.length)
  · simp [argsσ, Vm.results, ho, c1, c2, hS, hO, l1, op_nilp, -getElem?_pos]
  cases c3 : decide (N = 0)
  · have q1 := of_decide_eq_true c1; have q2 := of_decide_eq_true c2
    have w1 : IntKind.i64.wrap ((f.stack.length : Int) - o) = (f.stack.length : Int) - o := wr (by omega) (by omega)
    have w2 : IntKind.i64.wrap ((f.stack.length : Int) - o + N) = (f.stack.length : Int) - o + N := wr (by omega) (by omega)
    simp [argsσ, Vm.results, ho, c1, c2, c3, hS, hO, l1, op_nilp, w1, w2, -getElem?_pos]
  · simp [argsσ, Vm.results, ho, c1, c2, c3, hS, hO, l1, op_nilp, -getElem?_pos]
end
end Go.Proofs.YtghidjgejmmcmaaW.Rg
