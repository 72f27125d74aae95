/- The program's check: fields, what an instruction takes and lays, what follows, the least place. No conditions. -/
import Derived.Test.YtcbmmiglccmekaaVmA6
set_option linter.unusedVariables false
set_option linter.unusedSimpArgs false
namespace Go.Proofs.YtcbmmiglccmekaaW.Rg
open Go.Proofs.YtcbmmiglccmekaaW.Vm Go.Proofs.YtcbmmiglccmekaaW.Md
open Go Go.Proofs
/-- a checker in memory -/
structure Ck (H : List Ob) (p : Option (List Fu)) (f : Fu) (ck di ni : Nat) (ds : List Int) (dn : List Bool) (pl : Int) : Prop where
  c : H[ck]? = some ⟨0, 8, [encC p f di ni f.c.length pl], 0⟩
  d : H[di]? = some ⟨0, 1, ds.map I, 0⟩
  b : H[ni]? = some ⟨0, 1, dn.map D.bool, 0⟩
  n1 : ck ≠ di
  n2 : ck ≠ ni
  n3 : di ≠ ni
theorem get_some_lt {α : Type} {l : List α} {i : Nat} {x : α} (h : l[i]? = some x) : i < l.length := (List.getElem?_eq_some_iff.1 h).1
theorem Ck.app {H p f ck di ni ds dn pl} (h : Ck H p f ck di ni ds dn pl) (t : List Ob) : Ck (H ++ t) p f ck di ni ds dn pl :=
  ⟨by rw [get_lt (get_some_lt h.c), h.c], by rw [get_lt (get_some_lt h.d), h.d], by rw [get_lt (get_some_lt h.b), h.b], h.n1, h.n2, h.n3⟩
theorem cfield_spec (p : Option (List Fu)) (f : Fu) (x : Instr) {H : List Ob} {ck di ni n : Nat} {pl : Int} (hc : H[ck]? = some ⟨0, 8, [encC p f di ni n pl], 0⟩) :
    body Try.prog R 40 [.ptr ck 0 0 0, encInstr x] H = some (I (fieldE (p.getD []).length f x), H ++ [⟨0, 3, [encInstr x], 0⟩]) := by
  have hlt := get_some_lt hc
  have g : ∀ t, (H ++ t)[ck]? = some ⟨0, 8, [encC p f di ni n pl], 0⟩ := fun t => by rw [get_lt hlt, hc]
  have hcl : (f.code.getD []).length = f.c.length := rfl
  have hd := dr40_11
  simp [opsAt, opsIn, Try.f40] at hd
  have hdw := Wdraw0 hd
  have hd2 := dr40_15
  simp [opsAt, opsIn, Try.f40] at hd2
  have hdw2 := Wdraw0 hd2
  clear hd hd2
  rw [body_eq Try.func40 rfl rfl]
  unfold fieldE
  cases c1 : decide (x.op = 1)
  case true =>
    have h := of_decide_eq_true c1
    cases c2 : decide (f.locals ≤ x.a) <;> (first | have := of_decide_eq_true c2 | have := of_decide_eq_false c2) <;> simp [argsσ, Vm.results, g, op_nilp, c2, h, *]
  cases c1' : decide (x.op = 2)
  case true =>
    have h := of_decide_eq_true c1'
    cases c2 : decide (f.locals ≤ x.a) <;> (first | have := of_decide_eq_true c2 | have := of_decide_eq_false c2) <;> simp [argsσ, Vm.results, g, op_nilp, c2, h, *]
  have n1 := of_decide_eq_false c1; have n2 := of_decide_eq_false c1'
  cases c3 : decide (x.op = 14)
  case true =>
    have h := of_decide_eq_true c3
    cases c2 : decide (f.slots ≤ x.a) <;> (first | have := of_decide_eq_true c2 | have := of_decide_eq_false c2) <;> simp [argsσ, Vm.results, g, op_nilp, c2, h, *]
  have n3 := of_decide_eq_false c3
  cases c4 : decide (x.op = 13)
  case true =>
    have h := of_decide_eq_true c4
    cases c2 : decide (f.slots ≤ x.b)
    · have m1 := of_decide_eq_false c2
      cases c5 : decide (((p.getD []).length : Int) ≤ x.a) <;> (first | have := of_decide_eq_true c5 | have := of_decide_eq_false c5) <;> simp [argsσ, Vm.results, g, op_nilp, hdw, c2, c5, h, *]
    · have m1 := of_decide_eq_true c2
      simp [argsσ, Vm.results, g, op_nilp, hdw, c2, h, *]
  have n4 := of_decide_eq_false c4
  cases c5 : decide (x.op = 10)
  case true =>
    have h := of_decide_eq_true c5
    cases c2 : decide ((f.c.length : Int) ≤ x.a) <;> (first | have := of_decide_eq_true c2 | have := of_decide_eq_false c2) <;> simp [argsσ, Vm.results, g, op_nilp, hdw2, c2, h, *]
  have n5 := of_decide_eq_false c5
  cases c6 : decide (x.op = 11)
  case true =>
    have h := of_decide_eq_true c6
    cases c2 : decide ((f.c.length : Int) ≤ x.a) <;> (first | have := of_decide_eq_true c2 | have := of_decide_eq_false c2) <;> simp [argsσ, Vm.results, g, op_nilp, hdw2, c2, h, *]
  have n6 := of_decide_eq_false c6
  simp [argsσ, Vm.results, g, op_nilp, *]
theorem cstack_spec (p : Option (List Fu)) (f : Fu) (hs : Safe (p.getD []) f.c) (x : Instr) (hx : x ∈ f.c) {H : List Ob} {ck di ni n : Nat} {pl : Int} (hc : H[ck]? = some ⟨0, 8, [encC p f di ni n pl], 0⟩) :
    body Try.prog R 44 [.ptr ck 0 0 0, encInstr x] H = some (.tup [I (offP (p.getD []) x), I (on6 x.op)], H ++ [⟨0, 3, [encInstr x], 0⟩]) := by
  have hlt := get_some_lt hc
  have g : ∀ t, (H ++ t)[ck]? = some ⟨0, 8, [encC p f di ni n pl], 0⟩ := fun t => by rw [get_lt hlt, hc]
  have hS := stack_spec x.op ⟨(hs.a hx).1, (hs.a hx).2.1⟩
  have hd := dr44_3
  simp [opsAt, opsIn, Try.f44] at hd
  have hdw := Wdraw0 hd
  clear hd
  rw [body_eq Try.func44 rfl rfl]
  cases c1 : decide (x.op = 13)
  · have e : offP (p.getD []) x = off6 x.op := by unfold offP; rw [if_neg (of_decide_eq_false c1)]
    rw [e]
    simp [argsσ, Vm.results, c1, hS]
  · have h13 := of_decide_eq_true c1
    have h2 := hs.sp x hx h13
    have h3 := (hs.a hx).2.2.1
    obtain ⟨m, hm⟩ : ∃ m : Nat, x.a = m := ⟨x.a.toNat, by omega⟩
    have hlt2 : m < (p.getD []).length := by omega
    have hix := idxD_nat .i64 hlt2
    have hg : (p.getD [])[m]? = some (p.getD [])[m] := List.getElem?_eq_getElem hlt2
    have e : offP (p.getD []) x = ((p.getD [])[m]).arity := by unfold offP; rw [if_pos h13, hm]; simp [hg]
    rw [e]
    generalize (p.getD [])[m] = f2 at hg
    simp [argsσ, Vm.results, g, op_nilp, c1, hS, hdw, hm, hix, hg]
theorem cnext_spec (p : Option (List Fu)) (f : Fu) (at_ : Nat) (x : Instr) (hx : f.c[at_]? = some x) (h200 : f.c.length ≤ 200) {H : List Ob} {ck di ni n : Nat} {pl : Int} (hc : H[ck]? = some ⟨0, 8, [encC p f di ni n pl], 0⟩) :
    body Try.prog R 45 [.ptr ck 0 0 0, I at_] H = some (encL 1 I (nextO x at_), H ++ [⟨0, 3, [encInstr x], 0⟩]) := by
  have hlt := get_some_lt hc
  have hat := get_some_lt hx
  have g : ∀ t, (H ++ t)[ck]? = some ⟨0, 8, [encC p f di ni n pl], 0⟩ := fun t => by rw [get_lt hlt, hc]
  have hx' : (f.code.getD [])[at_]? = some x := hx
  have hix : idxD (f.code.getD []).length (D.int .i64 (at_ : Int)) = some at_ := idxD_nat .i64 hat
  have hw : IntKind.i64.wrap ((at_ : Int) + 1) = (at_ : Int) + 1 := wr (by omega) (by omega)
  rw [body_eq Try.func45 rfl rfl]
  unfold nextO
  cases c1 : decide (x.op = 10)
  case true => have := of_decide_eq_true c1; simp [argsσ, Vm.results, hc, op_nilp, hix, hx', c1, this, encL]
  cases c2 : decide (x.op = 15)
  case true => have := of_decide_eq_true c2; simp [argsσ, Vm.results, hc, op_nilp, hix, hx', c1, c2, this, encL]
  cases c3 : decide (x.op = 16)
  case true => have := of_decide_eq_true c3; simp [argsσ, Vm.results, hc, op_nilp, hix, hx', c1, c2, c3, this, encL]
  cases c4 : decide (x.op = 11)
  case true => have := of_decide_eq_true c4; simp [argsσ, Vm.results, hc, op_nilp, hix, hx', c1, c2, c3, c4, this, encL, hw]
  have q1 := of_decide_eq_false c1; have q2 := of_decide_eq_false c2; have q3 := of_decide_eq_false c3; have q4 := of_decide_eq_false c4
  simp [argsσ, Vm.results, hc, op_nilp, hix, hx', c1, c2, c3, c4, encL, hw, q1, q2, q3, q4]
theorem cleast_loop {H p f ck di ni ds dn pl} (hk : Ck H p f ck di ni ds dn pl) (hl : ds.length = f.c.length) (hn : dn.length = f.c.length) (h200 : f.c.length ≤ 200) {X : Type} (K : Ex × St → Option X) (Q : Option X → Prop) : ∀ (m i : Nat) (σ : Nat → D), i + m = ds.length →
    σ 0 = .ptr ck 0 0 0 → σ 8 = .own 1 di 0 0 f.c.length → σ 9 = I ds.length → σ 10 = I i →
    (∀ σ' (j : Nat), leastF ds dn m i = some j → σ' 2 = I j → Q (K (.ret, ⟨σ', H, 29⟩))) → (∀ σ', leastF ds dn m i = none → Q (K (.exit 0, ⟨σ', H, 29⟩))) →
    Q ((W Try.prog cfg (.loop (loopAt Try.f43 2)) ⟨σ, H, 29⟩).bind K) := by
  intro m
  induction m with
  | zero =>
    intro i σ hm s0 s8 s9 s10 hr1 he
    have hi : ¬ (i < ds.length) := by omega
    rw [Wloop]
    conv => arg 1; arg 1; arg 1; simp [loopAt, loopIn, headId, Try.f43, s9, s10, hi]
    exact he _ rfl
  | succ m ih =>
    intro i σ hm s0 s8 s9 s10 hr1 he
    have hi : i < ds.length := by omega
    have hi2 : i < f.c.length := by omega
    have hlt : decide (i < ds.length) = true := dt hi
    have hx2 := idxD_nat .i64 hi2
    have hw : IntKind.i64.wrap ((i : Int) + 1) = ((i + 1 : Nat) : Int) := wr (by omega) (by omega)
    have g1 : ds[i]? = some ds[i] := List.getElem?_eq_getElem hi
    have g2 : dn[i]? = some dn[i] := List.getElem?_eq_getElem (by omega)
    have e1 : ds.getD i (-1) = ds[i] := by simp [List.getD_eq_getElem?_getD, g1]
    have e2 : dn.getD i true = dn[i] := by simp [List.getD_eq_getElem?_getD, g2]
    have kc := hk.c; have kd := hk.d; have kb := hk.b
    unfold leastF at hr1 he
    rw [e1, e2] at hr1 he
    generalize ds[i] = d at *
    generalize dn[i] = b at *
    cases c1 : decide (d = -1)
    · have hd : d ≠ -1 := of_decide_eq_false c1
      cases b with
      | true =>
        rw [if_neg (by simp)] at hr1 he
        rw [Wloop]
        conv => arg 1; arg 1; arg 1; simp [loopAt, loopIn, headId, Try.f43, s0, s8, s9, s10, hlt, hx2, g1, g2, c1, hw, kc, kd, kb, op_nilp]
        rw [Option.bind_some, loopK_normal]
        exact ih (i + 1) _ (by omega) (by simp [s0]) (by simp [s8]) (by simp [s9]) (by simp) hr1 he
      | false =>
        rw [if_pos ⟨hd, rfl⟩] at hr1 he
        rw [Wloop]
        conv => arg 1; arg 1; arg 1; simp [loopAt, loopIn, headId, Try.f43, s0, s8, s9, s10, hlt, hx2, g1, g2, c1, hw, kc, kd, kb, op_nilp]
        exact hr1 _ i rfl (by simp)
    · have hd : d = -1 := of_decide_eq_true c1
      rw [if_neg (by simp [hd])] at hr1 he
      rw [Wloop]
      conv => arg 1; arg 1; arg 1; simp [loopAt, loopIn, headId, Try.f43, s0, s8, s9, s10, hlt, hx2, g1, g2, c1, hw, kc, kd, kb, op_nilp]
      rw [Option.bind_some, loopK_normal]
      exact ih (i + 1) _ (by omega) (by simp [s0]) (by simp [s8]) (by simp [s9]) (by simp) hr1 he
theorem cleast_spec {H p f ck di ni ds dn pl} (hk : Ck H p f ck di ni ds dn pl) (hl : ds.length = f.c.length) (hn : dn.length = f.c.length) (h200 : f.c.length ≤ 200) :
    body Try.prog R 43 [.ptr ck 0 0 0] H = some (I (leastI ds dn), H) := by
  have kc := hk.c
  rw [body_eq Try.func43 rfl rfl]
  simp [argsσ, Option.bind_assoc, kc, op_nilp]
  refine cleast_loop hk hl hn h200 _ (fun o => o = some _) ds.length 0 _ (by simp) (by simp [argsσ]) (by simp) (by simp [hl]) (by simp) ?_ ?_
  · intro σ' j h1 h2; simp [h2, Vm.results, leastI, least, h1]
  · intro σ' h1; simp [Vm.results, leastI, least, h1]
end Go.Proofs.YtcbmmiglccmekaaW.Rg
