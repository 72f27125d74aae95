/- A runner's methods: spawn, join. No conditions. -/
import Derived.Test.YtghidjgejmmcmaaVmG7
set_option linter.unusedVariables false
set_option linter.unusedSimpArgs false
namespace Go.Proofs.YtghidjgejmmcmaaW.Rg
open Go.Proofs.YtghidjgejmmcmaaW.Vm Go.Proofs.YtghidjgejmmcmaaW.Md
open Go Go.Proofs
theorem noRef_spec : fnc Try.prog cfg R 26 [] = some (encRf noK) := by
  rw [fnc_at rfl, body_eq Try.func26 rfl rfl]
  simp [argsσ, Vm.results, noK]
section
variable {B H : List Ob} {r : Nat} {f : Fr} {P : D} {x : Instr} {c : Ac} {S L Z A : D}
/-- other arguments of the act -/
theorem Rn.updA (h : Rn B H r f P x c S L Z A) (f' : Fr) (x' : Instr) (c' : Ac) (A' : D) (h1 : f'.stack = f.stack) (h2 : f'.locals = f.locals) (h3 : f'.slots = f.slots)
    (hA : IsS H 2 (c'.args.map encV) A') (ha : ¬ At A' r) (hs : ∀ i, At S i → ¬ At A' i) (hl : ∀ i, At L i → ¬ At A' i) (hz : ∀ i, At Z i → ¬ At A' i) (hb : ∀ i, At A' i → B.length ≤ i) :
    Rn B (H.set r ⟨0, 25, [rnC f' S L Z P x' c' A'], 0⟩) r f' P x' c' S L Z A' :=
  ⟨List.getElem?_set_self h.lt, by rw [h1]; exact h.s.set h.rs _, by rw [h2]; exact h.l.set h.rl _, by rw [h3]; exact h.z.set h.rz _, hA.set ha _, h.rs, h.rl, h.rz, ha, h.sl, h.sz, hs, h.lz, hl, hz, fun i hi => by rw [List.getElem?_set_ne (by have := h.br; omega)]; exact h.pre i hi, h.br, h.bs, h.bl, h.bz, hb⟩
/-- a slot is written -/
theorem Rn.setZ {id ver : Nat} {rest : List D} (h : Rn B H r f P x c S L (.own 6 id ver 0 f.slots.length) A) (hh : H[id]? = some ⟨ver, 6, f.slots.map encSlt ++ rest, 0⟩) (i : Nat) (hi : i < f.slots.length) (s : Slt) (k : Int) (hk : k.toNat = i) :
    Rn B (H.set id ⟨ver, 6, (f.slots.map encSlt ++ rest).set i (encSlt s), 0⟩) r (setSlot f k s) P x c S L (.own 6 id ver 0 f.slots.length) A := by
  have hid := (List.getElem?_eq_some_iff.1 hh).1
  have hz := h.rz
  rw [at_own] at hz
  have e : (f.slots.map encSlt ++ rest).set i (encSlt s) = (setSlot f k s).slots.map encSlt ++ rest := by
    unfold setSlot
    simp only [hk]
    rw [List.set_append_left _ _ (by simpa using hi), List.map_set]
  rw [e]
  have nS : ¬ At S id := fun h1 => h.sz id h1 rfl
  have nL : ¬ At L id := fun h1 => h.lz id h1 rfl
  have nA : ¬ At A id := fun h1 => h.za id rfl h1
  refine ⟨by rw [List.getElem?_set_ne hz, h.o]; rfl, h.s.set nS _, h.l.set nL _, .inr (.inr ⟨id, ver, rest, by unfold setSlot; simp, List.getElem?_set_self hid⟩), h.a.set nA _, h.rs, h.rl, h.rz, h.ra, h.sl, h.sz, h.sa, h.lz, h.la, h.za, fun j hj => by rw [List.getElem?_set_ne (by have := h.bz id rfl; omega)]; exact h.pre j hj, h.br, h.bs, h.bl, h.bz, h.ba⟩
theorem Rn.setL {id ver : Nat} {rest : List D} (h : Rn B H r f P x c S (.own 2 id ver 0 f.locals.length) Z A) (hh : H[id]? = some ⟨ver, 2, f.locals.map encV ++ rest, 0⟩) (i : Nat) (hi : i < f.locals.length) (s : Vl) (k : Int) (hk : k.toNat = i) :
    Rn B (H.set id ⟨ver, 2, (f.locals.map encV ++ rest).set i (encV s), 0⟩) r { f with locals := f.locals.set k.toNat s } P x c S (.own 2 id ver 0 f.locals.length) Z A := by
  have hid := (List.getElem?_eq_some_iff.1 hh).1
  have hz := h.rl
  rw [at_own] at hz
  have e : (f.locals.map encV ++ rest).set i (encV s) = (f.locals.set k.toNat s).map encV ++ rest := by
    simp only [hk]
    rw [List.set_append_left _ _ (by simpa using hi), List.map_set]
  rw [e]
  have nS : ¬ At S id := fun h1 => h.sl id h1 rfl
  have nL : ¬ At Z id := fun h1 => h.lz id rfl h1
  have nA : ¬ At A id := fun h1 => h.la id rfl h1
  refine ⟨by rw [List.getElem?_set_ne hz, h.o], h.s.set nS _, .inr (.inr ⟨id, ver, rest, by simp, List.getElem?_set_self hid⟩), h.z.set nL _, h.a.set nA _, h.rs, h.rl, h.rz, h.ra, h.sl, h.sz, h.sa, h.lz, h.la, h.za, fun j hj => by rw [List.getElem?_set_ne (by have := h.bl id rfl; omega)]; exact h.pre j hj, h.br, h.bs, h.bl, h.bz, h.ba⟩
theorem slotAt_get {f : Fr} {i : Nat} (hi : i < f.slots.length) (k : Int) (hk : k = i) : slotAt f k = f.slots[i] := by
  subst hk; unfold slotAt; simp [hi]
theorem spawn_spec (p : Option (List Fu)) (h : Rn B H r f (encProg p) x c S L Z A) (hx : imay x = true) (h13 : x.op = 13) (hp : x.a < (p.getD []).length) (hb : x.b < f.slots.length) (ho0 : 0 ≤ offP (p.getD []) x) (hol : offP (p.getD []) x ≤ f.stack.length)
    (hl : f.stack.length ≤ 2 ^ 40) (hpc : 0 ≤ f.pc ∧ f.pc < 2 ^ 62) :
    ∃ H' S' A', body Try.prog R 34 [.ptr r 0 0 0] H = some (.tup [], H') ∧ Rn B H' r (spawnF (p.getD []) f x).1 (encProg p) x (spawnF (p.getD []) f x).2 S' L Z A' := by
  have hi := imay_iff.1 hx
  obtain ⟨n, hn⟩ : ∃ n : Nat, x.b = n := ⟨x.b.toNat, by omega⟩
  have hnl : n < f.slots.length := by omega
  obtain ⟨id, ver, rest, rfl, hh, hel, hix⟩ := h.z.ix (t := 34) un34 sz60 hnl
  have ho := h.o; have hlt := h.lt
  have yi := idxD_nat .i64 hnl
  have hsl := slotAt_get hnl x.b hn
  have d0 := dr34_0; have d4 := dr34_4
  simp [opsAt, opsIn, Try.f34] at d0 d4
  have w0 := Wdraw0 d0; have w4 := Wdraw d4
  clear d0 d4
  have hnr := noRef_spec
  simp only [encRf, noK] at hnr
  unfold spawnF
  rw [hsl]
  cases c1 : decide (f.slots[n].state = 0)
  · have e1 := of_decide_eq_false c1
    rw [if_pos e1]
    obtain ⟨H1, e2, R1⟩ := trap_spec h 2
    refine ⟨H1, S, .snil, ?_, R1⟩
    rw [body_eq Try.func34 rfl rfl]
    simp [argsσ, Vm.results, ho, hlt, op_nilp, hn, yi, hh, hel, w0, c1, e2, -getElem?_pos]
  · have e1 := of_decide_eq_true c1
    rw [if_neg (by simpa using e1)]
    have R1 := h.setZ hh n hnl ⟨1, noK, o0⟩ x.b (by omega)
    have hidr : ¬ id = r := fun e => h.rz (by rw [at_own]; exact e)
    have ho1 := R1.o; have hlt1 := R1.lt
    have hstl : (setSlot f x.b ⟨1, noK, o0⟩).stack.length = f.stack.length := rfl
    have hoff := off_spec' p R1 hx (fun _ => hp)
    obtain ⟨m, hm⟩ : ∃ m : Nat, offP (p.getD []) x = m := ⟨(offP (p.getD []) x).toNat, by omega⟩
    obtain ⟨H2, S2, d, e2, R2, i2, g2, g3⟩ := pop_spec R1 m (by rw [hstl]; omega) (by rw [hstl]; omega)
    have hmt : (offP (p.getD []) x).toNat = m := by omega
    rw [hm] at hoff
    rw [hmt]
    have ho2 := R2.o; have hlt2 := R2.lt
    have hC := Child_spec f.seed f.spawned
    have hw : IntKind.i64.wrap (f.pc + 1) = f.pc + 1 := wr (by omega) (by omega)
    have hd1 := i2.one; have hdc := i2.cells
    have R3 := R2.updA { nextF (popF (setSlot f x.b ⟨1, noK, o0⟩) m) with spawned := IntKind.i64.wrap (f.spawned + 1) } x ⟨2, x.a, x.b, childI f.seed f.spawned, topV (setSlot f x.b ⟨1, noK, o0⟩) m⟩ d rfl rfl rfl i2
      (fun h1 => by have := g2 r h1; omega) (fun i h1 h2 => by
        have := g2 i h2
        have := R1.s.lt (g3 i h1)
        omega) (fun i h1 h2 => by have := g2 i h2; have := R1.l.lt h1; omega) (fun i h1 h2 => by have := g2 i h2; have := R1.z.lt h1; omega) (fun i h1 => by have := g2 i h1; have := R1.br; omega)
    refine ⟨_, S2, d, ?_, R3⟩
    generalize hG : H.set id ⟨ver, 6, (f.slots.map encSlt ++ rest).set n (encSlt ⟨1, noK, o0⟩), 0⟩ = G at *
    have hG' : H.set id ⟨ver, 6, (f.slots.map encSlt ++ rest).set n (.agg [I 1, I (-1), I 0, I 0, I 0, I 0]), 0⟩ = G := hG
    rw [body_eq Try.func34 rfl rfl]
    simp [argsσ, Vm.results, ho, hlt, op_nilp, hn, yi, hh, hel, w0, c1, hnr, hG', ho1, w4, hoff, e2, ho2, hlt2, gs0 hlt2, hd1, hdc, hC, hw, logL, loud, isE, drawChk, nextF, popF, setSlot, -getElem?_pos] <;> simp only [rnC, hn]
theorem join_spec (h : Rn B H r f P x c S L Z A) (hc : c = acN 1) (hx : imay x = true) (h14 : x.op = 14) (hb : x.a < f.slots.length) (hl : f.stack.length ≤ 2 ^ 40) (hpc : 0 ≤ f.pc ∧ f.pc < 2 ^ 62) :
    ∃ H' S' A', body Try.prog R 35 [.ptr r 0 0 0] H = some (.tup [], H') ∧ Rn B H' r (joinF f x).1 P x (joinF f x).2 S' L Z A' := by
  have hi := imay_iff.1 hx
  obtain ⟨n, hn⟩ : ∃ n : Nat, x.a = n := ⟨x.a.toNat, by unfold leastA at hi; rw [if_neg (by omega)] at hi; omega⟩
  have hnl : n < f.slots.length := by omega
  obtain ⟨id, ver, rest, rfl, hh, hel, hix⟩ := h.z.ix (t := 34) un34 sz60 hnl
  have ho := h.o; have hlt := h.lt; have hg := h.get
  have yi := idxD_nat .i64 hnl
  have hsl := slotAt_get hnl x.a hn
  have hidl := (List.getElem?_eq_some_iff.1 hh).1
  have q3 : ∀ t, (H ++ t)[id]? = some ⟨ver, 6, f.slots.map encSlt ++ rest, 0⟩ := fun t => by rw [get_lt hidl, hh]
  have d0 := dr35_0; have d6 := dr35_6
  simp [opsAt, opsIn, Try.f35] at d0 d6
  have w0 := Wdraw d0; have w6 := Wdraw d6
  clear d0 d6
  unfold joinF
  rw [hsl]
  generalize hs : f.slots[n] = s at *
  cases c1 : decide (s.state = 1)
  case true =>
    have e1 := of_decide_eq_true c1
    rw [if_pos e1]
    have R1 := (h.app [⟨0, 6, [encSlt s], 0⟩]).upd { f with state := 1, wait := x.a } x (acN 3) .snil rfl rfl rfl (.inl ⟨rfl, rfl⟩)
    refine ⟨_, S, .snil, ?_, R1⟩
    rw [body_eq Try.func35 rfl rfl]
    simp [argsσ, Vm.results, ho, hg, hlt, op_nilp, hn, yi, hh, q3, hel, w0, c1, gs0 hlt, gsA hlt, stA hlt, ssA hlt, logL, loud, isE, drawChk, acN, -getElem?_pos] <;> simp only [rnC, hn]
  have m1 := of_decide_eq_false c1
  rw [if_neg m1]
  cases c2 : decide (s.state = 2)
  case false =>
    have m2 := of_decide_eq_false c2
    rw [if_pos m2]
    obtain ⟨H1, e2, R1⟩ := trap_spec (h.app [⟨0, 6, [encSlt s], 0⟩]) 2
    refine ⟨H1, S, .snil, ?_, R1⟩
    rw [body_eq Try.func35 rfl rfl]
    simp [argsσ, Vm.results, ho, hg, hlt, op_nilp, hn, yi, hh, q3, hel, w0, c1, c2, e2, logL, loud, isE, drawChk, -getElem?_pos]
  have m2 := of_decide_eq_true c2
  rw [if_neg (by simpa using m2)]
  have R1 := (h.app [⟨0, 6, [encSlt s], 0⟩]).setZ (q3 _) n hnl s0 x.a (by omega)
  have hidr : ¬ id = r := fun e => h.rz (by rw [at_own]; exact e)
  have ho1 := R1.o; have hlt1 := R1.lt
  have hlast : ((H ++ [(⟨0, 6, [encSlt s], 0⟩ : Ob)]).set id ⟨ver, 6, (f.slots.map encSlt ++ rest).set n (encSlt s0), 0⟩)[H.length]? = some ⟨0, 6, [encSlt s], 0⟩ := by
    rw [List.getElem?_set_ne (by omega)]; simp
  generalize hG : (H ++ [(⟨0, 6, [encSlt s], 0⟩ : Ob)]).set id ⟨ver, 6, (f.slots.map encSlt ++ rest).set n (encSlt s0), 0⟩ = G at *
  have hG' : (H ++ [(⟨0, 6, [encSlt s], 0⟩ : Ob)]).set id ⟨ver, 6, (f.slots.map encSlt ++ rest).set n (.agg [I 0, I 0, I 0, I 0, I 0, I 0]), 0⟩ = G := hG
  cases c3 : decide (s.out.trap = 0)
  case false =>
    have m3 := of_decide_eq_false c3
    rw [if_pos m3]
    obtain ⟨H2, e2, R2⟩ := trap_spec R1 s.out.trap
    refine ⟨H2, S, .snil, ?_, R2⟩
    rw [body_eq Try.func35 rfl rfl]
    simp [argsσ, Vm.results, ho, hg, hlt, op_nilp, hn, yi, hh, q3, hel, w0, w6, c1, c2, c3, hG', ho1, hlast, e2, logL, loud, isE, drawChk, -getElem?_pos]
  have m3 := of_decide_eq_true c3
  rw [if_neg (by simpa using m3)]
  obtain ⟨H2, S2, e2, R2⟩ := push_spec R1 [s.out.v] (.sl 2 [encV s.out.v] false) (by simp) (by simp) (by unfold setSlot; simp; omega) (by simp)
  have ho2 := R2.o; have hlt2 := R2.lt
  have hw : IntKind.i64.wrap (f.pc + 1) = f.pc + 1 := wr (by omega) (by omega)
  refine ⟨_, S2, A, ?_, R2.upd (nextF (pushF (setSlot f x.a s0) [s.out.v])) x (acN 1) A rfl rfl rfl (.inr ⟨rfl, by rw [hc]⟩)⟩
  rw [body_eq Try.func35 rfl rfl]
  simp [argsσ, Vm.results, ho, hg, hlt, op_nilp, hn, yi, hh, q3, hel, w0, w6, c1, c2, c3, hG', ho1, hlast, e2, ho2, gs0 hlt2, hw, hc, logL, loud, isE, drawChk, nextF, pushF, setSlot, -getElem?_pos] <;> simp only [rnC, hn]
end
end Go.Proofs.YtghidjgejmmcmaaW.Rg
