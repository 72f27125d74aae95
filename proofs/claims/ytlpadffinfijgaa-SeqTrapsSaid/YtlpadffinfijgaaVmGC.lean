/- A runner's methods: there, two. No conditions. -/
import Derived.Test.YtlpadffinfijgaaVmGB
set_option linter.unusedVariables false
set_option linter.unusedSimpArgs false
namespace Go.Proofs.YtlpadffinfijgaaW.Rg
open Go.Proofs.YtlpadffinfijgaaW.Vm Go.Proofs.YtlpadffinfijgaaW.Md
open Go Go.Proofs
section
variable {B H : List Ob} {r : Nat} {f : Fr} {P : D} {x : Instr} {c : Ac} {S L Z A : D}
theorem there_none (p : Option (List Fu)) (code : Option (List Instr)) (h : Rn B H r f (encProg p) x c S L Z A) (hpc : f.pc < 0 ∨ ((code.getD []).length : Int) ≤ f.pc) :
    body Try.prog R 57 [.ptr r 0 0 0, encCode code] H = some (.bool false, H) := by
  have ho := h.o
  rw [body_eq Try.func57 rfl rfl]
  cases c1 : decide (f.pc < 0)
  · have c2 : decide (((code.getD []).length : Int) ≤ f.pc) = true := dt (by have := of_decide_eq_false c1; omega)
    simp [argsσ, Vm.results, ho, c1, c2, op_nilp, -getElem?_pos]
  · simp [argsσ, Vm.results, ho, c1, op_nilp, -getElem?_pos]
theorem there_some (p : Option (List Fu)) (code : Option (List Instr)) (h : Rn B H r f (encProg p) x c S L Z A) (n : Nat) (hpc : f.pc = n) (y : Instr) (hy : (code.getD [])[n]? = some y) :
    ∃ H' x', body Try.prog R 57 [.ptr r 0 0 0, encCode code] H = some (.bool (thereX (p.getD []) f y), H') ∧ Rn B H' r f (encProg p) x' c S L Z A ∧ (thereX (p.getD []) f y = true → x' = y) := by
  have ho := h.o; have hlt := h.lt
  obtain ⟨l1, l2, l3⟩ := h.sOne
  have hn : n < (code.getD []).length := (List.getElem?_eq_some_iff.1 hy).1
  have hix := idxD_nat .i64 hn
  have c1 : decide ((n : Int) < 0) = false := df (by omega)
  have c2 : decide ((code.getD []).length ≤ n) = false := df (by omega)
  have hM := opmay_spec y
  have hR := h.upd f y c A rfl rfl rfl (.inr ⟨rfl, rfl⟩)
  have ho2 := gs0 hlt ⟨0, 25, [rnC f S L Z (encProg p) y c A], 0⟩
  have hdw : ∀ k, k = 7 ∨ k = 9 ∨ k = 11 → drawInfo Try.prog cfg (opsAt Try.f57 k) = some [] := by
    rintro k (rfl | rfl | rfl)
    · exact dr57_7
    · exact dr57_9
    · exact dr57_11
  have d7 := hdw 7 (by simp); have d9 := hdw 9 (by simp); have d11 := hdw 11 (by simp)
  simp [opsAt, opsIn, Try.f57] at d7 d9 d11
  have w7 := Wdraw0 d7; have w9 := Wdraw0 d9; have w11 := Wdraw0 d11
  clear d7 d9 d11 hdw
  unfold thereX
  cases k0 : imay y
  · rw [k0] at hM
    refine ⟨H, x, ?_, h, by simp⟩
    rw [body_eq Try.func57 rfl rfl]
    simp [argsσ, Vm.results, ho, hpc, c1, c2, hix, hy, hM, op_nilp, -getElem?_pos]
  rw [k0] at hM
  refine ⟨_, y, ?_, hR, fun _ => rfl⟩
  rw [body_eq Try.func57 rfl rfl]
  by_cases o1 : y.op = 1 ∨ y.op = 2
  · rw [if_pos o1]
    cases k1 : decide (y.op = 1)
    · have k2 : decide (y.op = 2) = true := dt (by have := of_decide_eq_false k1; omega)
      cases q : decide (y.a < f.locals.length) <;> simp [argsσ, Vm.results, ho, ho2, hlt, gs0 hlt, hpc, c1, c2, hix, hy, hM, l1, l2, l3, k1, k2, q, w7, op_nilp, -getElem?_pos] <;> simp only [rnC, hpc]
    · cases q : decide (y.a < f.locals.length) <;> simp [argsσ, Vm.results, ho, ho2, hlt, gs0 hlt, hpc, c1, c2, hix, hy, hM, l1, l2, l3, k1, q, w7, op_nilp, -getElem?_pos] <;> simp only [rnC, hpc]
  have n1 : decide (y.op = 1) = false := df (by omega)
  have n2 : decide (y.op = 2) = false := df (by omega)
  rw [if_neg o1]
  by_cases o2 : y.op = 14
  · rw [if_pos o2]
    have k3 : decide (y.op = 14) = true := dt o2
    cases q : decide (y.a < f.slots.length) <;> simp [argsσ, Vm.results, ho, ho2, hlt, gs0 hlt, hpc, c1, c2, hix, hy, hM, l1, l2, l3, n1, n2, k3, q, w9, op_nilp, -getElem?_pos] <;> simp only [rnC, hpc]
  have n3 : decide (y.op = 14) = false := df o2
  rw [if_neg o2]
  by_cases o3 : y.op = 13
  · rw [if_pos o3]
    have k4 : decide (y.op = 13) = true := dt o3
    cases q : decide (y.a < (p.getD []).length)
    · simp [argsσ, Vm.results, ho, ho2, hlt, gs0 hlt, hpc, c1, c2, hix, hy, hM, l1, l2, l3, n1, n2, n3, k4, q, w11, op_nilp, -getElem?_pos] <;> simp only [rnC, hpc]
    · cases q2 : decide (y.b < f.slots.length) <;> simp [argsσ, Vm.results, ho, ho2, hlt, gs0 hlt, hpc, c1, c2, hix, hy, hM, l1, l2, l3, n1, n2, n3, k4, q, q2, w11, op_nilp, -getElem?_pos] <;> simp only [rnC, hpc]
  have n4 : decide (y.op = 13) = false := df o3
  rw [if_neg o3]
  simp [argsσ, Vm.results, ho, ho2, hlt, gs0 hlt, hpc, c1, c2, hix, hy, hM, l1, l2, l3, n1, n2, n3, n4, op_nilp, -getElem?_pos] <;> simp only [rnC, hpc]
/-- elements of a slice of one's own -/
theorem IsS.ix {α : Type} {e : α → D} {z : Nat} {l : List α} {d : D} (h : IsS H z (l.map e) d) {t el : Nat} (hu : Try.prog.underlying t = some (.slice el)) (hs : szT Try.prog el = some z) {i : Nat} (hi : i < l.length) :
    ∃ id ver rest, d = .own z id ver 0 l.length ∧ H[id]? = some ⟨ver, z, l.map e ++ rest, 0⟩ ∧ (l.map e ++ rest)[i]? = some (e l[i]) ∧ indexAddrD Try.prog t d (I i) = some (.ptr id ver i 0) := by
  rcases h with ⟨rfl, hx⟩ | ⟨rfl, hx⟩ | ⟨id, ver, rest, rfl, hh⟩
  · have hx : l = [] := by simpa using hx
    subst hx; simp at hi
  · have hx : l = [] := by simpa using hx
    subst hx; simp at hi
  · refine ⟨id, ver, rest, by simp, hh, ?_, ?_⟩
    · rw [List.getElem?_append_left (by simpa using hi)]; simp [hi]
    · have := ix_own hu hs id ver 0 (l.map e).length .i64 i ⟨by omega, by simp; omega⟩
      simpa using this
theorem two_spec (h : Rn B H r f P x c S L Z A) (hc : c = acN 1) (h2 : 2 ≤ f.stack.length) (hl : f.stack.length ≤ 2 ^ 40) (hpc : 0 ≤ f.pc ∧ f.pc < 2 ^ 62) (hx : x.op = 3 ∨ x.op = 4 ∨ x.op = 5 ∨ x.op = 6) :
    ∃ H' S' A', body Try.prog R 64 [.ptr r 0 0 0] H = some (.tup [], H') ∧ Rn B H' r (twoF f x).1 P x (twoF f x).2 S' L Z A' := by
  obtain ⟨H1, S1, d, e1, R1, i1, g1, _⟩ := pop_spec h 2 h2 hl
  rw [show ((2 : Nat) : Int) = 2 from rfl] at e1
  have htl : (topV f 2).length = 2 := by unfold topV; simp; omega
  obtain ⟨u, v, huv⟩ : ∃ u v, topV f 2 = [u, v] := by
    match hq : topV f 2, htl with
    | [a, b], _ => exact ⟨a, b, rfl⟩
  have ha0 : a0 f 2 = u := by unfold a0; rw [huv]; rfl
  have ha1 : a1 f 2 = v := by unfold a1; rw [huv]; rfl
  rw [huv] at i1
  obtain ⟨id, ver, rest, rfl, hh, hel, hix⟩ := i1.ix (t := 24) un24 sz30 (i := 0) (by simp)
  obtain ⟨_, _, _, hq, _, hel2, hix2⟩ := i1.ix (t := 24) un24 sz30 (i := 1) (by simp)
  have ho := R1.o; have hlt := R1.lt; have hg1 := R1.get
  have y0 : idxD 2 (D.int .i64 0) = some 0 := rfl
  have y1 : idxD 2 (D.int .i64 1) = some 1 := rfl
  have hidl := (List.getElem?_eq_some_iff.1 hh).1
  have hA := Add_spec u v; have hS := Sub_spec u v; have hM := Mul_spec u v; have hD := Div_spec u v
  have q3 : ∀ t, (H1 ++ t)[id]? = some ⟨ver, 2, [u, v].map encV ++ rest, 0⟩ := fun t => by rw [get_lt hidl, hh]
  have dw : ∀ k, k = 5 ∨ k = 7 ∨ k = 9 → True := fun _ _ => trivial
  have d5 := dr64_5; have d7 := dr64_7; have d9 := dr64_9; have d11 := dr64_11
  simp [opsAt, opsIn, Try.f64] at d5 d7 d9 d11
  have w5 := Wdraw d5; have w7 := Wdraw d7; have w9 := Wdraw d9; have w11 := Wdraw d11
  clear d5 d7 d9 d11 dw
  have hw : IntKind.i64.wrap (f.pc + 1) = f.pc + 1 := wr (by omega) (by omega)
  simp only [List.length_cons, List.length_nil, Nat.zero_add, Nat.reduceAdd] at *
  have fin : ∀ (w : Vl) (t : List Ob), ∃ H' S', body Try.prog R 87 [.ptr r 0 0 0, .sl 2 [encV w] false] (H1 ++ t) = some (.tup [], H') ∧ Rn B H' r (pushF (popF f 2) [w]) P x c S' L Z A := fun w t =>
    push_spec (R1.app t) [w] (.sl 2 [encV w] false) (by simp) (by simp) (by unfold popF; simp; omega) (by simp)
  unfold twoF
  rw [ha0, ha1]
  by_cases o6 : x.op = 6
  · rw [if_pos o6]
    cases hq : divG u v with
    | none =>
      rw [hq] at hD
      have i2 := i1.app [⟨0, 2, [encV ⟨0, 0⟩], 0⟩]
      obtain ⟨H2, S2, e2, R2⟩ := push_spec (R1.app [⟨0, 2, [encV ⟨0, 0⟩], 0⟩]) [u, v] (.own 2 id ver 0 2) (by rw [i2.els]) (by simp) (by unfold popF; simp; omega) (by simp)
      have hpp : pushF (popF f 2) [u, v] = f := by
        rw [← huv]; unfold pushF popF topV; simp
      rw [hpp] at R2
      obtain ⟨H3, e3, R3⟩ := trap_spec R2 1
      refine ⟨H3, S2, .snil, ?_, R3⟩
      rw [body_eq Try.func64 rfl rfl]
      simp [argsσ, Vm.results, e1, ho, hg1, hlt, y0, y1, o6, op_nilp, hix, hix2, q3, hD, w11, logL, loud, isE, drawChk, e2, e3, -getElem?_pos]
    | some q =>
      rw [hq] at hD
      obtain ⟨H2, S2, e2, R2⟩ := fin q [⟨0, 2, [encV q], 0⟩]
      have ho2 := R2.o; have hlt2 := R2.lt
      refine ⟨_, S2, A, ?_, R2.upd (nextF (pushF (popF f 2) [q])) x (acN 1) A rfl rfl rfl (.inr ⟨rfl, by rw [hc]⟩)⟩
      rw [body_eq Try.func64 rfl rfl]
      simp [argsσ, Vm.results, e1, ho, hg1, hlt, y0, y1, o6, op_nilp, hix, hix2, q3, hD, w11, logL, loud, isE, drawChk, e2, ho2, hlt2, gs0 hlt2, hw, hc, nextF, popF, pushF, -getElem?_pos] <;> simp only [rnC, o6]
  · rw [if_neg o6]
    by_cases o3 : x.op = 3
    · rw [if_pos o3]
      obtain ⟨H2, S2, e2, R2⟩ := fin (addG u v) [⟨0, 2, [encV (addG u v)], 0⟩]
      have ho2 := R2.o; have hlt2 := R2.lt
      refine ⟨_, S2, A, ?_, R2.upd (nextF (pushF (popF f 2) [addG u v])) x (acN 1) A rfl rfl rfl (.inr ⟨rfl, by rw [hc]⟩)⟩
      rw [body_eq Try.func64 rfl rfl]
      simp [argsσ, Vm.results, e1, ho, hg1, hlt, y0, y1, o3, op_nilp, hix, hix2, q3, hA, w5, logL, loud, isE, drawChk, e2, ho2, hlt2, gs0 hlt2, hw, hc, nextF, popF, pushF, -getElem?_pos] <;> simp only [rnC, o3]
    rw [if_neg o3]
    by_cases o4 : x.op = 4
    · rw [if_pos o4]
      obtain ⟨H2, S2, e2, R2⟩ := fin (subG u v) [⟨0, 2, [encV (subG u v)], 0⟩]
      have ho2 := R2.o; have hlt2 := R2.lt
      refine ⟨_, S2, A, ?_, R2.upd (nextF (pushF (popF f 2) [subG u v])) x (acN 1) A rfl rfl rfl (.inr ⟨rfl, by rw [hc]⟩)⟩
      rw [body_eq Try.func64 rfl rfl]
      simp [argsσ, Vm.results, e1, ho, hg1, hlt, y0, y1, o4, op_nilp, hix, hix2, q3, hS, w7, logL, loud, isE, drawChk, e2, ho2, hlt2, gs0 hlt2, hw, hc, nextF, popF, pushF, -getElem?_pos] <;> simp only [rnC, o4]
    rw [if_neg o4]
    have o5 : x.op = 5 := by omega
    obtain ⟨H2, S2, e2, R2⟩ := fin (mulG u v) [⟨0, 2, [encV (mulG u v)], 0⟩]
    have ho2 := R2.o; have hlt2 := R2.lt
    refine ⟨_, S2, A, ?_, R2.upd (nextF (pushF (popF f 2) [mulG u v])) x (acN 1) A rfl rfl rfl (.inr ⟨rfl, by rw [hc]⟩)⟩
    rw [body_eq Try.func64 rfl rfl]
    simp [argsσ, Vm.results, e1, ho, hg1, hlt, y0, y1, o5, op_nilp, hix, hix2, q3, hM, w9, logL, loud, isE, drawChk, e2, ho2, hlt2, gs0 hlt2, hw, hc, nextF, popF, pushF, -getElem?_pos] <;> simp only [rnC, o5]
end
end Go.Proofs.YtlpadffinfijgaaW.Rg
set_option linter.unusedVariables false
set_option linter.unusedSimpArgs false
namespace Go.Proofs.YtlpadffinfijgaaW.Rg
open Go.Proofs.YtlpadffinfijgaaW.Vm Go.Proofs.YtlpadffinfijgaaW.Md
open Go Go.Proofs
theorem noRef_spec : fnc Try.prog cfg R 36 [] = some (encRf noK) := by
  rw [fnc_at rfl, body_eq Try.func36 rfl rfl]
  simp [argsσ, Vm.results, noK]
section
variable {B H : List Ob} {r : Nat} {f : Fr} {P : D} {x : Instr} {c : Ac} {S L Z A : D}
/-- other arguments of the act -/
theorem Rn.updA (h : Rn B H r f P x c S L Z A) (f' : Fr) (x' : Instr) (c' : Ac) (A' : D) (h1 : f'.stack = f.stack) (h2 : f'.locals = f.locals) (h3 : f'.slots = f.slots)
    (hA : IsS H 2 (c'.args.map encV) A') (ha : ¬ At A' r) (hs : ∀ i, At S i → ¬ At A' i) (hl : ∀ i, At L i → ¬ At A' i) (hz : ∀ i, At Z i → ¬ At A' i) (hb : ∀ i, At A' i → B.length ≤ i) :
    Rn B (H.set r ⟨0, 25, [rnC f' S L Z P x' c' A'], 0⟩) r f' P x' c' S L Z A' :=
  ⟨List.getElem?_set_self h.lt, by rw [h1]; exact h.s.set h.rs _, by rw [h2]; exact h.l.set h.rl _, by rw [h3]; exact h.z.set h.rz _, hA.set ha _, h.rs, h.rl, h.rz, ha, h.sl, h.sz, hs, h.lz, hl, hz, fun i hi => by rw [List.getElem?_set_ne (by have := h.br; omega)]; exact h.pre i hi, h.br, h.bs, h.bl, h.bz, hb⟩
/-- a slot is written -/
theorem Rn.setZ {id ver : Nat} {rest : List D} (h : Rn B H r f P x c S L (.own 6 id ver 0 f.slots.length) A) (hh : H[id]? = some ⟨ver, 6, f.slots.map encSlt ++ rest, 0⟩) (i : Nat) (hi : i < f.slots.length) (s : Slt) (k : Int) (hk : k.toNat = i) :
    Rn B (H.set id ⟨ver, 6, (f.slots.map encSlt ++ rest).set i (encSlt s), 0⟩) r (setSlot f k s) P x c S L (.own 6 id ver 0 f.slots.length) A := by
  have hid := (List.getElem?_eq_some_iff.1 hh).1
  have hz := h.rz
  rw [at_own] at hz
  have e : (f.slots.map encSlt ++ rest).set i (encSlt s) = (setSlot f k s).slots.map encSlt ++ rest := by
    unfold setSlot
    simp only [hk]
    rw [List.set_append_left _ _ (by simpa using hi), List.map_set]
  rw [e]
  have nS : ¬ At S id := fun h1 => h.sz id h1 rfl
  have nL : ¬ At L id := fun h1 => h.lz id h1 rfl
  have nA : ¬ At A id := fun h1 => h.za id rfl h1
  refine ⟨by rw [List.getElem?_set_ne hz, h.o]; rfl, h.s.set nS _, h.l.set nL _, .inr (.inr ⟨id, ver, rest, by unfold setSlot; simp, List.getElem?_set_self hid⟩), h.a.set nA _, h.rs, h.rl, h.rz, h.ra, h.sl, h.sz, h.sa, h.lz, h.la, h.za, fun j hj => by rw [List.getElem?_set_ne (by have := h.bz id rfl; omega)]; exact h.pre j hj, h.br, h.bs, h.bl, h.bz, h.ba⟩
theorem Rn.setL {id ver : Nat} {rest : List D} (h : Rn B H r f P x c S (.own 2 id ver 0 f.locals.length) Z A) (hh : H[id]? = some ⟨ver, 2, f.locals.map encV ++ rest, 0⟩) (i : Nat) (hi : i < f.locals.length) (s : Vl) (k : Int) (hk : k.toNat = i) :
    Rn B (H.set id ⟨ver, 2, (f.locals.map encV ++ rest).set i (encV s), 0⟩) r { f with locals := f.locals.set k.toNat s } P x c S (.own 2 id ver 0 f.locals.length) Z A := by
  have hid := (List.getElem?_eq_some_iff.1 hh).1
  have hz := h.rl
  rw [at_own] at hz
  have e : (f.locals.map encV ++ rest).set i (encV s) = (f.locals.set k.toNat s).map encV ++ rest := by
    simp only [hk]
    rw [List.set_append_left _ _ (by simpa using hi), List.map_set]
  rw [e]
  have nS : ¬ At S id := fun h1 => h.sl id h1 rfl
  have nL : ¬ At Z id := fun h1 => h.lz id rfl h1
  have nA : ¬ At A id := fun h1 => h.la id rfl h1
  refine ⟨by rw [List.getElem?_set_ne hz, h.o], h.s.set nS _, .inr (.inr ⟨id, ver, rest, by simp, List.getElem?_set_self hid⟩), h.z.set nL _, h.a.set nA _, h.rs, h.rl, h.rz, h.ra, h.sl, h.sz, h.sa, h.lz, h.la, h.za, fun j hj => by rw [List.getElem?_set_ne (by have := h.bl id rfl; omega)]; exact h.pre j hj, h.br, h.bs, h.bl, h.bz, h.ba⟩
theorem slotAt_get {f : Fr} {i : Nat} (hi : i < f.slots.length) (k : Int) (hk : k = i) : slotAt f k = f.slots[i] := by
  subst hk; unfold slotAt; simp [hi]
theorem spawn_spec (p : Option (List Fu)) (h : Rn B H r f (encProg p) x c S L Z A) (hx : imay x = true) (h13 : x.op = 13) (hp : x.a < (p.getD []).length) (hb : x.b < f.slots.length) (ho0 : 0 ≤ offP (p.getD []) x) (hol : offP (p.getD []) x ≤ f.stack.length)
    (hl : f.stack.length ≤ 2 ^ 40) (hpc : 0 ≤ f.pc ∧ f.pc < 2 ^ 62) :
    ∃ H' S' A', body Try.prog R 62 [.ptr r 0 0 0] H = some (.tup [], H') ∧ Rn B H' r (spawnF (p.getD []) f x).1 (encProg p) x (spawnF (p.getD []) f x).2 S' L Z A' := by
  have hi := imay_iff.1 hx
  obtain ⟨n, hn⟩ : ∃ n : Nat, x.b = n := ⟨x.b.toNat, by omega⟩
  have hnl : n < f.slots.length := by omega
  obtain ⟨id, ver, rest, rfl, hh, hel, hix⟩ := h.z.ix (t := 58) un58 sz111 hnl
  have ho := h.o; have hlt := h.lt
  have yi := idxD_nat .i64 hnl
  have hsl := slotAt_get hnl x.b hn
  have d0 := dr62_0; have d4 := dr62_4
  simp [opsAt, opsIn, Try.f62] at d0 d4
  have w0 := Wdraw0 d0; have w4 := Wdraw d4
  clear d0 d4
  have hnr := noRef_spec
  simp only [encRf, noK] at hnr
  unfold spawnF
  rw [hsl]
  cases c1 : decide (f.slots[n].state = 0)
  · have e1 := of_decide_eq_false c1
    rw [if_pos e1]
    obtain ⟨H1, e2, R1⟩ := trap_spec h 2
    refine ⟨H1, S, .snil, ?_, R1⟩
    rw [body_eq Try.func62 rfl rfl]
    simp [argsσ, Vm.results, ho, hlt, op_nilp, hn, yi, hh, hel, w0, c1, e2, -getElem?_pos]
  · have e1 := of_decide_eq_true c1
    rw [if_neg (by simpa using e1)]
    have R1 := h.setZ hh n hnl ⟨1, noK, o0⟩ x.b (by omega)
    have hidr : ¬ id = r := fun e => h.rz (by rw [at_own]; exact e)
    have ho1 := R1.o; have hlt1 := R1.lt
    have hstl : (setSlot f x.b ⟨1, noK, o0⟩).stack.length = f.stack.length := rfl
    have hoff := off_spec' p R1 hx (fun _ => hp)
    obtain ⟨m, hm⟩ : ∃ m : Nat, offP (p.getD []) x = m := ⟨(offP (p.getD []) x).toNat, by omega⟩
    obtain ⟨H2, S2, d, e2, R2, i2, g2, g3⟩ := pop_spec R1 m (by rw [hstl]; omega) (by rw [hstl]; omega)
    have hmt : (offP (p.getD []) x).toNat = m := by omega
    rw [hm] at hoff
    rw [hmt]
    have ho2 := R2.o; have hlt2 := R2.lt
    have hC := Child_spec f.seed f.spawned
    have hw : IntKind.i64.wrap (f.pc + 1) = f.pc + 1 := wr (by omega) (by omega)
    have hd1 := i2.one; have hdc := i2.cells
    have R3 := R2.updA { nextF (popF (setSlot f x.b ⟨1, noK, o0⟩) m) with spawned := IntKind.i64.wrap (f.spawned + 1) } x ⟨2, x.a, x.b, childI f.seed f.spawned, topV (setSlot f x.b ⟨1, noK, o0⟩) m⟩ d rfl rfl rfl i2
      (fun h1 => by have := g2 r h1; omega) (fun i h1 h2 => by
        have := g2 i h2
        have := R1.s.lt (g3 i h1)
        omega) (fun i h1 h2 => by have := g2 i h2; have := R1.l.lt h1; omega) (fun i h1 h2 => by have := g2 i h2; have := R1.z.lt h1; omega) (fun i h1 => by have := g2 i h1; have := R1.br; omega)
    refine ⟨_, S2, d, ?_, R3⟩
    generalize hG : H.set id ⟨ver, 6, (f.slots.map encSlt ++ rest).set n (encSlt ⟨1, noK, o0⟩), 0⟩ = G at *
    have hG' : H.set id ⟨ver, 6, (f.slots.map encSlt ++ rest).set n (.agg [I 1, I (-1), I 0, I 0, I 0, I 0]), 0⟩ = G := hG
    rw [body_eq Try.func62 rfl rfl]
    simp [argsσ, Vm.results, ho, hlt, op_nilp, hn, yi, hh, hel, w0, c1, hnr, hG', ho1, w4, hoff, e2, ho2, hlt2, gs0 hlt2, hd1, hdc, hC, hw, logL, loud, isE, drawChk, nextF, popF, setSlot, -getElem?_pos] <;> simp only [rnC, hn]
theorem join_spec (h : Rn B H r f P x c S L Z A) (hc : c = acN 1) (hx : imay x = true) (h14 : x.op = 14) (hb : x.a < f.slots.length) (hl : f.stack.length ≤ 2 ^ 40) (hpc : 0 ≤ f.pc ∧ f.pc < 2 ^ 62) :
    ∃ H' S' A', body Try.prog R 63 [.ptr r 0 0 0] H = some (.tup [], H') ∧ Rn B H' r (joinF f x).1 P x (joinF f x).2 S' L Z A' := by
  have hi := imay_iff.1 hx
  obtain ⟨n, hn⟩ : ∃ n : Nat, x.a = n := ⟨x.a.toNat, by unfold leastA at hi; rw [if_neg (by omega)] at hi; omega⟩
  have hnl : n < f.slots.length := by omega
  obtain ⟨id, ver, rest, rfl, hh, hel, hix⟩ := h.z.ix (t := 58) un58 sz111 hnl
  have ho := h.o; have hlt := h.lt; have hg := h.get
  have yi := idxD_nat .i64 hnl
  have hsl := slotAt_get hnl x.a hn
  have hidl := (List.getElem?_eq_some_iff.1 hh).1
  have q3 : ∀ t, (H ++ t)[id]? = some ⟨ver, 6, f.slots.map encSlt ++ rest, 0⟩ := fun t => by rw [get_lt hidl, hh]
  have d0 := dr63_0; have d6 := dr63_6
  simp [opsAt, opsIn, Try.f63] at d0 d6
  have w0 := Wdraw d0; have w6 := Wdraw d6
  clear d0 d6
  unfold joinF
  rw [hsl]
  generalize hs : f.slots[n] = s at *
  cases c1 : decide (s.state = 1)
  case true =>
    have e1 := of_decide_eq_true c1
    rw [if_pos e1]
    have R1 := (h.app [⟨0, 6, [encSlt s], 0⟩]).upd { f with state := 1, wait := x.a } x (acN 3) .snil rfl rfl rfl (.inl ⟨rfl, rfl⟩)
    refine ⟨_, S, .snil, ?_, R1⟩
    rw [body_eq Try.func63 rfl rfl]
    simp [argsσ, Vm.results, ho, hg, hlt, op_nilp, hn, yi, hh, q3, hel, w0, c1, gs0 hlt, gsA hlt, stA hlt, ssA hlt, logL, loud, isE, drawChk, acN, -getElem?_pos] <;> simp only [rnC, hn]
  have m1 := of_decide_eq_false c1
  rw [if_neg m1]
  cases c2 : decide (s.state = 2)
  case false =>
    have m2 := of_decide_eq_false c2
    rw [if_pos m2]
    obtain ⟨H1, e2, R1⟩ := trap_spec (h.app [⟨0, 6, [encSlt s], 0⟩]) 2
    refine ⟨H1, S, .snil, ?_, R1⟩
    rw [body_eq Try.func63 rfl rfl]
    simp [argsσ, Vm.results, ho, hg, hlt, op_nilp, hn, yi, hh, q3, hel, w0, c1, c2, e2, logL, loud, isE, drawChk, -getElem?_pos]
  have m2 := of_decide_eq_true c2
  rw [if_neg (by simpa using m2)]
  have R1 := (h.app [⟨0, 6, [encSlt s], 0⟩]).setZ (q3 _) n hnl s0 x.a (by omega)
  have hidr : ¬ id = r := fun e => h.rz (by rw [at_own]; exact e)
  have ho1 := R1.o; have hlt1 := R1.lt
  have hlast : ((H ++ [(⟨0, 6, [encSlt s], 0⟩ : Ob)]).set id ⟨ver, 6, (f.slots.map encSlt ++ rest).set n (encSlt s0), 0⟩)[H.length]? = some ⟨0, 6, [encSlt s], 0⟩ := by
    rw [List.getElem?_set_ne (by omega)]; simp
  generalize hG : (H ++ [(⟨0, 6, [encSlt s], 0⟩ : Ob)]).set id ⟨ver, 6, (f.slots.map encSlt ++ rest).set n (encSlt s0), 0⟩ = G at *
  have hG' : (H ++ [(⟨0, 6, [encSlt s], 0⟩ : Ob)]).set id ⟨ver, 6, (f.slots.map encSlt ++ rest).set n (.agg [I 0, I 0, I 0, I 0, I 0, I 0]), 0⟩ = G := hG
  cases c3 : decide (s.out.trap = 0)
  case false =>
    have m3 := of_decide_eq_false c3
    rw [if_pos m3]
    obtain ⟨H2, e2, R2⟩ := trap_spec R1 s.out.trap
    refine ⟨H2, S, .snil, ?_, R2⟩
    rw [body_eq Try.func63 rfl rfl]
    simp [argsσ, Vm.results, ho, hg, hlt, op_nilp, hn, yi, hh, q3, hel, w0, w6, c1, c2, c3, hG', ho1, hlast, e2, logL, loud, isE, drawChk, -getElem?_pos]
  have m3 := of_decide_eq_true c3
  rw [if_neg (by simpa using m3)]
  obtain ⟨H2, S2, e2, R2⟩ := push_spec R1 [s.out.v] (.sl 2 [encV s.out.v] false) (by simp) (by simp) (by unfold setSlot; simp; omega) (by simp)
  have ho2 := R2.o; have hlt2 := R2.lt
  have hw : IntKind.i64.wrap (f.pc + 1) = f.pc + 1 := wr (by omega) (by omega)
  refine ⟨_, S2, A, ?_, R2.upd (nextF (pushF (setSlot f x.a s0) [s.out.v])) x (acN 1) A rfl rfl rfl (.inr ⟨rfl, by rw [hc]⟩)⟩
  rw [body_eq Try.func63 rfl rfl]
  simp [argsσ, Vm.results, ho, hg, hlt, op_nilp, hn, yi, hh, q3, hel, w0, w6, c1, c2, c3, hG', ho1, hlast, e2, ho2, gs0 hlt2, hw, hc, logL, loud, isE, drawChk, nextF, pushF, setSlot, -getElem?_pos] <;> simp only [rnC, hn]
end
end Go.Proofs.YtlpadffinfijgaaW.Rg
set_option linter.unusedVariables false
set_option linter.unusedSimpArgs false
namespace Go.Proofs.YtlpadffinfijgaaW.Rg
open Go.Proofs.YtlpadffinfijgaaW.Vm Go.Proofs.YtlpadffinfijgaaW.Md
open Go Go.Proofs
section
variable {B H : List Ob} {r : Nat} {f : Fr} {P : D} {x : Instr} {c : Ac} {S L Z A : D}
@[simp] theorem beq_own (z i v o l) : beq (.own z i v o l) (.own z i v o l) = true := by simp [beq]
@[simp] theorem beq_ptr (i v a b) : beq (.ptr i v a b) (.ptr i v a b) = true := by simp [beq]
/-- one value is taken off -/
theorem pop1 (h : Rn B H r f P x c S L Z A) (h1 : 1 ≤ f.stack.length) (hl : f.stack.length ≤ 2 ^ 40) : ∃ H1 S1 id ver rest, body Try.prog R 61 [.ptr r 0 0 0, I 1] H = some (.own 2 id ver 0 1, H1) ∧ Rn B H1 r (popF f 1) P x c S1 L Z A ∧
    H1[id]? = some ⟨ver, 2, encV (a0 f 1) :: rest, 0⟩ ∧ topV f 1 = [a0 f 1] ∧ H.length ≤ id := by
  obtain ⟨H1, S1, d, e1, R1, i1, g1, _⟩ := pop_spec h 1 h1 hl
  have htl : (topV f 1).length = 1 := by unfold topV; simp; omega
  obtain ⟨u, huv⟩ : ∃ u, topV f 1 = [u] := by
    match hq : topV f 1, htl with
    | [a], _ => exact ⟨a, rfl⟩
  have ha0 : a0 f 1 = u := by unfold a0; rw [huv]; rfl
  rw [huv] at i1
  obtain ⟨id, ver, rest, rfl, hh, hel, hix⟩ := i1.ix (t := 24) un24 sz30 (i := 0) (by simp)
  rw [ha0]
  exact ⟨H1, S1, id, ver, rest, e1, R1, hh, huv, g1 id rfl⟩
set_option maxHeartbeats 1600000 in
theorem plain_spec (h : Rn B H r f P x c S L Z A) (hc : c = acN 1) (hx : imay x = true) (hon : off6 x.op ≤ f.stack.length) (hloc : x.op = 1 ∨ x.op = 2 → x.a < f.locals.length) (hl : f.stack.length ≤ 2 ^ 40) (hpc : 0 ≤ f.pc ∧ f.pc < 2 ^ 62)
    (hop : ¬ (x.op = 16 ∨ x.op = 15 ∨ x.op = 13 ∨ x.op = 14 ∨ x.op = 3 ∨ x.op = 4 ∨ x.op = 5 ∨ x.op = 6)) :
    ∃ H' S' A', body Try.prog R 65 [.ptr r 0 0 0] H = some (.tup [], H') ∧ Rn B H' r (plainF f x).1 P x (plainF f x).2 S' L Z A' := by
  have hi := imay_iff.1 hx
  have ho := h.o; have hlt := h.lt; have hg := h.get
  have hw : IntKind.i64.wrap (f.pc + 1) = f.pc + 1 := wr (by omega) (by omega)
  have y0 : idxD 1 (D.int .i64 0) = some 0 := rfl
  have d3 := dr65_3; have d5 := dr65_5; have d7 := dr65_7; have d22 := dr65_22
  simp [opsAt, opsIn, Try.f65] at d3 d5 d7 d22
  have w3 := Wdraw d3; have w5 := Wdraw d5; have w7 := Wdraw d7; have w22 := Wdraw d22
  clear d3 d5 d7 d22
  unfold plainF
  by_cases o0 : x.op = 0
  · rw [if_pos o0]
    obtain ⟨H2, S2, e2, R2⟩ := push_spec h [ofG x.a x.b] (.sl 2 [encV (ofG x.a x.b)] false) (by simp) (by simp) hl (by simp)
    have hO := Of_spec x.a x.b
    have ho2 := R2.o; have hlt2 := R2.lt
    refine ⟨_, S2, A, ?_, R2.upd (nextF (pushF f [ofG x.a x.b])) x (acN 1) A rfl rfl rfl (.inr ⟨rfl, by rw [hc]⟩)⟩
    rw [body_eq Try.func65 rfl rfl]
    simp [argsσ, Vm.results, ho, hlt, op_nilp, o0, hw, w3, hO, e2, ho2, gs0 hlt2, hc, logL, loud, isE, drawChk, nextF, pushF, -getElem?_pos] <;> simp only [rnC, o0]
  rw [if_neg o0]
  by_cases o1 : x.op = 1
  · rw [if_pos o1]
    have hl1 := hloc (.inl o1)
    obtain ⟨n, hn⟩ : ∃ n : Nat, x.a = n := ⟨x.a.toNat, by unfold leastA at hi; rw [if_neg (by omega)] at hi; omega⟩
    have hnl : n < f.locals.length := by omega
    obtain ⟨id, ver, rest, rfl, hh, hel, hix⟩ := h.l.ix (t := 24) un24 sz30 hnl
    have yi := idxD_nat .i64 hnl
    have hv : (f.locals[x.a.toNat]?).getD v0 = f.locals[n] := by rw [hn]; simp [hnl]
    rw [hv]
    generalize f.locals[n] = v at *
    obtain ⟨H2, S2, e2, R2⟩ := push_spec h [v] (.sl 2 [encV v] false) (by simp) (by simp) hl (by simp)
    have ho2 := R2.o; have hlt2 := R2.lt
    refine ⟨_, S2, A, ?_, R2.upd (nextF (pushF f [v])) x (acN 1) A rfl rfl rfl (.inr ⟨rfl, by rw [hc]⟩)⟩
    rw [body_eq Try.func65 rfl rfl]
    simp [argsσ, Vm.results, ho, hlt, op_nilp, o1, hn, yi, hh, hel, hw, w5, e2, ho2, gs0 hlt2, hc, logL, loud, isE, drawChk, nextF, pushF, -getElem?_pos] <;> simp only [rnC, o1, hn]
  rw [if_neg o1]
  by_cases o2 : x.op = 2
  · rw [if_pos o2]
    have hl1 := hloc (.inr o2)
    obtain ⟨n, hn⟩ : ∃ n : Nat, x.a = n := ⟨x.a.toNat, by unfold leastA at hi; rw [if_neg (by omega)] at hi; omega⟩
    have hnl : n < f.locals.length := by omega
    obtain ⟨id, ver, rest, rfl, hh, hel, hix⟩ := h.l.ix (t := 24) un24 sz30 hnl
    have yi := idxD_nat .i64 hnl
    obtain ⟨H1, S1, id1, ver1, rest1, e1, R1, hh1, _, hid1⟩ := pop1 h (by unfold off6 at hon; simp [o2] at hon; omega) hl
    obtain ⟨rest2, hh2⟩ : ∃ rest2, H1[id]? = some ⟨ver, 2, f.locals.map encV ++ rest2, 0⟩ := by
      rcases R1.l with ⟨e, _⟩ | ⟨e, _⟩ | ⟨i, v, rest2, e, hh2⟩
      · cases e
      · cases e
      · simp only [D.own.injEq] at e
        obtain ⟨_, rfl, rfl, _⟩ := e
        exact ⟨rest2, hh2⟩
    generalize a0 f 1 = u at *
    have R2 := R1.setL hh2 n hnl u x.a (by omega)
    have ho1 := R1.o; have hlt1 := R1.lt
    have ho2 := R2.o; have hlt2 := R2.lt
    have hge : (f.locals.map encV ++ rest2)[n]? = some (encV f.locals[n]) := by
      rw [List.getElem?_append_left (by simpa using hnl)]; simp [hnl]
    generalize hG : H1.set id ⟨ver, 2, ((popF f 1).locals.map encV ++ rest2).set n (encV u), 0⟩ = G at *
    have hG' : H1.set id ⟨ver, 2, (f.locals.map encV ++ rest2).set n (.agg [I u.re, I u.im]), 0⟩ = G := hG
    refine ⟨_, S1, A, ?_, R2.upd (nextF (popF { f with locals := f.locals.set x.a.toNat u } 1)) x (acN 1) A rfl rfl rfl (.inr ⟨rfl, by rw [hc]⟩)⟩
    rw [body_eq Try.func65 rfl rfl]
    simp [argsσ, Vm.results, ho, hlt, op_nilp, o2, hn, y0, yi, hh1, hh2, hge, hw, e1, w7, ho1, hG', ho2, gs0 hlt2, hc, logL, loud, isE, drawChk, nextF, popF, -getElem?_pos] <;> simp only [rnC, o2, hn]
  rw [if_neg o2]
  by_cases o7 : x.op = 7
  · rw [if_pos o7]
    obtain ⟨H1, S1, id, ver, rest, e1, R1, hh, _⟩ := pop1 h (by unfold off6 at hon; simp [o7] at hon; omega) hl
    have hC := Conj_spec (a0 f 1)
    generalize a0 f 1 = u at *
    obtain ⟨H2, S2, e2, R2⟩ := push_spec R1 [conjG u] (.sl 2 [encV (conjG u)] false) (by simp) (by simp) (by unfold popF; simp; omega) (by simp)
    have ho2 := R2.o; have hlt2 := R2.lt
    refine ⟨_, S2, A, ?_, R2.upd (nextF (pushF (popF f 1) [conjG u])) x (acN 1) A rfl rfl rfl (.inr ⟨rfl, by rw [hc]⟩)⟩
    rw [body_eq Try.func65 rfl rfl]
    simp [argsσ, Vm.results, ho, hlt, op_nilp, o7, y0, hh, hw, e1, hC, e2, ho2, gs0 hlt2, hc, nextF, pushF, popF, -getElem?_pos] <;> simp only [rnC, o7]
  rw [if_neg o7]
  by_cases o8 : x.op = 8
  · rw [if_pos o8]
    obtain ⟨H1, S1, id, ver, rest, e1, R1, hh, _⟩ := pop1 h (by unfold off6 at hon; simp [o8] at hon; omega) hl
    generalize a0 f 1 = u at *
    obtain ⟨H2, S2, e2, R2⟩ := push_spec (R1.app [⟨0, 2, [encV u], 0⟩]) [u, u] (.sl 2 [encV u, encV u] false) (by simp) (by simp) (by unfold popF; simp; omega) (by simp)
    have ho2 := R2.o; have hlt2 := R2.lt
    refine ⟨_, S2, A, ?_, R2.upd (nextF (pushF (popF f 1) [u, u])) x (acN 1) A rfl rfl rfl (.inr ⟨rfl, by rw [hc]⟩)⟩
    rw [body_eq Try.func65 rfl rfl]
    simp [argsσ, Vm.results, ho, hlt, op_nilp, o8, y0, hh, hw, e1, e2, ho2, gs0 hlt2, hc, nextF, pushF, popF, -getElem?_pos] <;> simp only [rnC, o8]
  rw [if_neg o8]
  by_cases o9 : x.op = 9
  · rw [if_pos o9]
    obtain ⟨H1, S1, id, ver, rest, e1, R1, hh, _⟩ := pop1 h (by unfold off6 at hon; simp [o9] at hon; omega) hl
    have ho2 := R1.o; have hlt2 := R1.lt
    refine ⟨_, S1, A, ?_, R1.upd (nextF (popF f 1)) x (acN 1) A rfl rfl rfl (.inr ⟨rfl, by rw [hc]⟩)⟩
    rw [body_eq Try.func65 rfl rfl]
    simp [argsσ, Vm.results, ho, hlt, op_nilp, o9, hw, e1, ho2, gs0 hlt2, hc, nextF, pushF, popF, -getElem?_pos] <;> simp only [rnC, o9]
  rw [if_neg o9]
  by_cases o10 : x.op = 10
  · rw [if_pos o10]
    refine ⟨_, S, A, ?_, h.upd { f with pc := x.a } x (acN 1) A rfl rfl rfl (.inr ⟨rfl, by rw [hc]⟩)⟩
    rw [body_eq Try.func65 rfl rfl]
    simp [argsσ, Vm.results, ho, hlt, op_nilp, o10, hw, gs0 hlt, hc, -getElem?_pos] <;> simp only [rnC, o10]
  rw [if_neg o10]
  by_cases o11 : x.op = 11
  · rw [if_pos o11]
    obtain ⟨H1, S1, id, ver, rest, e1, R1, hh, _⟩ := pop1 h (by unfold off6 at hon; simp [o11] at hon; omega) hl
    have hO := Of_spec (a0 f 1).re (a0 f 1).im
    have hq : ∀ s t, binD Try.prog .eql 30 s t (encV (ofG (a0 f 1).re (a0 f 1).im)) (.agg [I 0, I 0]) = some (.bool (decide (ofG (a0 f 1).re (a0 f 1).im = v0))) := fun s t => eq_val s t (ofG (a0 f 1).re (a0 f 1).im) v0
    have er : (a0 f 1).red = ofG (a0 f 1).re (a0 f 1).im := rfl
    rw [er]
    generalize a0 f 1 = u at *
    have ho2 := R1.o; have hlt2 := R1.lt; have hg2 := R1.get
    cases k : decide (ofG u.re u.im = v0)
    · rw [if_neg (of_decide_eq_false k)]
      refine ⟨_, S1, A, ?_, (R1.upd (nextF (popF f 1)) x (acN 1) A rfl rfl rfl (.inr ⟨rfl, by rw [hc]⟩)).app [⟨0, 2, [encV u], 0⟩]⟩
      rw [k] at hq
      rw [body_eq Try.func65 rfl rfl]
      simp [argsσ, Vm.results, ho, hlt, op_nilp, o11, y0, hh, hw, e1, hO, hq, ho2, hg2, hlt2, gs0 hlt2, stA hlt2, gsA hlt2, ssA hlt2, hc, nextF, pushF, popF, -getElem?_pos] <;> simp only [rnC, o11]
    · rw [if_pos (of_decide_eq_true k)]
      refine ⟨_, S1, A, ?_, (R1.upd { popF f 1 with pc := x.a } x (acN 1) A rfl rfl rfl (.inr ⟨rfl, by rw [hc]⟩)).app [⟨0, 2, [encV u], 0⟩]⟩
      rw [k] at hq
      rw [body_eq Try.func65 rfl rfl]
      simp [argsσ, Vm.results, ho, hlt, op_nilp, o11, y0, hh, hw, e1, hO, hq, ho2, hg2, hlt2, gs0 hlt2, stA hlt2, gsA hlt2, ssA hlt2, hc, nextF, pushF, popF, -getElem?_pos] <;> simp only [rnC, o11]
  rw [if_neg o11]
  have o12 : x.op = 12 := by omega
  obtain ⟨H2, S2, e2, R2⟩ := push_spec h [drawV f.seed f.draws] (.sl 2 [encV (drawV f.seed f.draws)] false) (by simp) (by simp) hl (by simp)
  have hO : fnc Try.prog cfg R 94 [I f.seed, I f.draws] = some (encV (drawV f.seed f.draws)) := Draw_spec f.seed f.draws
  have ho2 := R2.o; have hlt2 := R2.lt
  refine ⟨_, S2, A, ?_, R2.upd (nextF { pushF f [drawV f.seed f.draws] with draws := IntKind.i64.wrap (f.draws + 1) }) x (acN 1) A rfl rfl rfl (.inr ⟨rfl, by rw [hc]⟩)⟩
  generalize drawV f.seed f.draws = v at *
  rw [body_eq Try.func65 rfl rfl]
  simp [argsσ, Vm.results, ho, hlt, op_nilp, o12, hw, w22, hO, e2, ho2, gs0 hlt2, hc, logL, loud, isE, drawChk, nextF, pushF, -getElem?_pos] <;> simp only [rnC, o12]
end
end Go.Proofs.YtlpadffinfijgaaW.Rg
